/- The model's do: what was drawn is remembered; one region that draws its order, in every frame. Conditions: at most 20 remembered. -/
import Derived.Test.YtgnamahdchefnaaBD
import Derived.Test.YtgnamahdchefnaaBA
namespace Go.Proofs.Ytgnamahdchefnaa
open Go.RowKit Go.Shelf

/-- a new registration's row, in blocks from N on -/
theorem NewU.step {lo N i : Nat} {κ : Nat → Role} {r : Role} {e : TypeId} {ia : Nat} {xs : List Int} {v : Value} {X X' : World} (hr9 : r ≠ (9, 9, 9)) (h : NewU N xs v X) (hr : OneR lo (kapN κ N) r e ia i X X') : NewU N xs v X' := by
  rcases hr with ⟨-, hf, -⟩ | ⟨-, hb⟩
  · exact h.heap (fun b hN hb => hf.block b hb (.inr (by rw [show kapN κ N b = (9, 9, 9) from kfrom_new hN]; exact Ne.symm hr9)))
  · exact h.below hb
def NewReg (N : Nat) (r : Rg) (v' v : Value) (X : World) : Prop := ∃ b, v = .slice (some ⟨b, 0, none⟩) 1 1 ∧ N ≤ b ∧ b < X.heap.size ∧ X.cell? ⟨b, 0, none⟩ = some v' ∧ X.cell? ⟨b, 1, none⟩ = some (.int .u64 r.c) ∧ X.cell? ⟨b, 2, none⟩ = some (.int .u64 r.o)
theorem NewReg.step {lo N i : Nat} {κ : Nat → Role} {r : Role} {e : TypeId} {ia : Nat} {rg : Rg} {v' v : Value} {X X' : World} (hr9 : r ≠ (9, 9, 9)) (h : NewReg N rg v' v X) (hr : OneR lo (kapN κ N) r e ia i X X') : NewReg N rg v' v X' := by
  obtain ⟨b, h1, h2, h3, h4, h5, h6⟩ := h
  have hk : kapN κ N b = (9, 9, 9) := kfrom_new h2
  rcases hr with ⟨-, hf, -⟩ | ⟨-, hb⟩
  · have hb := hf.block b h3 (.inr (by rw [hk]; exact Ne.symm hr9))
    exact ⟨b, h1, h2, Nat.lt_of_lt_of_le h3 hf.size, (World.cell?_of_block hb).trans h4, (World.cell?_of_block hb).trans h5, (World.cell?_of_block hb).trans h6⟩
  · exact ⟨b, h1, h2, Nat.lt_of_lt_of_le h3 hb.size, (hb.cell (p := ⟨b, 0, none⟩) h3).trans h4, (hb.cell (p := ⟨b, 1, none⟩) h3).trans h5, (hb.cell (p := ⟨b, 2, none⟩) h3).trans h6⟩
/-- the past with one more -/
def LongP (lo : Nat) (κ : Nat → Role) (N : Nat) (n : Nat) (C : Nat → Value) (r : Rg) (v : Value) (X : World) : Prop :=
  ∃ (κ' : Nat → Role) (v' : Value), (∀ b, b < N → κ' b = κ b) ∧ RowX lo κ' (7, 0, 0) 37 3 v (n + 1) (capp C (n * 3) [v', .int .u64 r.c, .int .u64 r.o]) X ∧ NewU N r.s v' X
def SpP (lo : Nat) (κ : Nat → Role) (N B H : Nat) (up : Value) (n : Nat) (C : Nat → Value) (xs : Value) (r : Rg) : Nat → Value → World → Prop
  | 0, v, _ => v = .pointer (some ⟨B, 6, none⟩)
  | 1, v, _ => v = up
  | 2, v, _ => v = .pointer (some ⟨H + 1, 0, none⟩)
  | 3, v, _ => v = regV xs r.c r.o
  | 4, v, X => ∃ v', v = regV v' r.c r.o ∧ NewU N r.s v' X
  | 5, v, X => ∃ v', NewReg N r v' v X ∧ NewU N r.s v' X
  | 6, v, X => LongP lo κ N n C r v X
  | _ + 7, _, _ => True
section
variable {lo N B H n : Nat} {κ κN : Nat → Role} {up xs : Value} {C : Nat → Value} {r : Rg} {X X' : World}
theorem spP_stable {i j : Nat} {v : Value} (hij : i ≠ j) (h : SpP lo κ N B H up n C xs r j v X) (hr : OneR lo (kapN κ N) (7, 0, 0) 37 6 i X X') : SpP lo κ N B H up n C xs r j v X' := by
  match j, hij, h with
  | 0, _, h => exact h
  | 1, _, h => exact h
  | 2, _, h => exact h
  | 3, _, h => exact h
  | 4, _, ⟨v', h1, h2⟩ => exact ⟨v', h1, h2.step (by decide) hr⟩
  | 5, _, ⟨v', h1, h2⟩ => exact ⟨v', h1.step (by decide) hr, h2.step (by decide) hr⟩
  | 6, hij, ⟨κ', v', h1, h2, h3⟩ =>
    refine ⟨κ', v', h1, ?_, h3.step (by decide) hr⟩
    rcases hr with ⟨e, -⟩ | ⟨-, hb⟩
    · exact absurd e hij
    · exact h2.below hb
  | _ + 7, _, _ => trivial
def NpP (lo : Nat) (κ : Nat → Role) (N : Nat) (up : Value) (n : Nat) (C : Nat → Value) (i : Nat) (X : World) : Prop := i = 6 → RowX lo (kapN κ N) (7, 0, 0) 37 3 up n C X
theorem npP_stable {i j : Nat} (hij : i ≠ j) (h : NpP lo κ N up n C j X) (hr : OneR lo κN (7, 0, 0) 37 6 i X X') : NpP lo κ N up n C j X' := fun e => by
  rcases hr with ⟨e2, -⟩ | ⟨-, hb⟩
  · exact absurd (e2.trans e.symm) hij
  · exact (h e).below hb
/-- one set of roles for the longer past and the new registration's row -/
theorem LongP.merge {v : Value} (h : LongP lo κ N n C r v X) (m : Nat) (hlo : lo ≤ N) : ∃ (κ' : Nat → Role) (v' : Value), (∀ b, b < N → κ' b = κ b) ∧ RowX lo κ' (7, 0, 0) 37 3 v (n + 1) (capp C (n * 3) [v', .int .u64 r.c, .int .u64 r.o]) X ∧ RowU lo κ' (8, m, 0) v' r.s X := by
  obtain ⟨κ1, v', a1, a2, a3⟩ := h
  have b2 : RowU N (fun _ => (8, m, 0)) (8, m, 0) v' r.s X := a3 _ _ (fun _ _ => rfl)
  rcases a2 with ⟨e, a, -⟩ | ⟨g, off, cap, cur, c1, c2, c3, c4, c5⟩
  · cases e
  · refine ⟨fun b => if b < N then κ b else if b = g then (7, 0, 0) else (8, m, 0), v', fun b hb => if_pos hb, .inr ⟨g, off, cap, cur, c1, ?_, c3, c4, c5⟩, ?_⟩
    · show (if g < N then κ g else if g = g then (7, 0, 0) else (8, m, 0)) = _
      split
      · rename_i h; rw [← a1 g h]; exact c2
      · rw [if_pos rfl]
    · rcases b2 with h | ⟨g', off', cap', cur', d1, d2, d3, d4, d5⟩
      · exact .inl h
      · have hne : g' ≠ g := fun e => by
          subst e
          rw [c4] at d4
          cases d4
        refine .inr ⟨g', off', cap', cur', d1, ?_, Nat.le_trans hlo d3, d4, d5⟩
        show (if g' < N then κ g' else if g' = g then (7, 0, 0) else (8, m, 0)) = _
        rw [if_neg (by omega), if_neg hne]
theorem news_reg {b : Nat} {x y z : Value} (h0 : X.cell? ⟨b, 0, none⟩ = some x) (h1 : X.cell? ⟨b, 1, none⟩ = some y) (h2 : X.cell? ⟨b, 2, none⟩ = some z) : ∀ j u, [x, y, z][j]? = some u → X.cell? ((⟨b, 0, none⟩ : Addr).add j) = some u := fun j u hu => by
  rw [WideShapes.add_plain]
  match j, hu with
  | 0, hu => simp at hu; subst hu; exact h0
  | 1, hu => simp at hu; subst hu; exact h1
  | 2, hu => simp at hu; subst hu; exact h2
end
set_option maxRecDepth 100000 in
set_option maxHeartbeats 8000000 in
theorem reg29 {Q : Exit → Act → World → Prop} {u0 u1 u2 u3 u5 u6 u7 u8 u10 u11 u12 u13 u14 u15 u16 u17 u18 u19 u20 u21 u22 u23 u24 u25 u26 u27 u28 u29 u30 u31 u32 u33 u34 u35 u36 u37 u38 u39 u40 u41 u42 u43 u44 u45 u46 u47 u48 u49 u50 u51 u52 u53 u54 u55 u56 u57 u58 u59 u60 u61 u62 u63 u64 u65 u66 u67 u68 u69 u70 u71 u72 u73 u74 u75 u76 u77 u78 u79 u80 u81 u82 u83 u84 u85 u86 u87 u88 u89 u90 u91 u92 u93 u94 u95 u96 u97 u98 u99 u100 u101 u102 u103 u104 u105 u106 u107 u108 u109 u110 u111 u112 u113 u114 u115 u116 u117 u118 u119 u120 u121 u122 u123 u124 u125 u126 u127 u128 u129 u130 u131 u132 u133 u134 u135 u136 u137 u138 u139 u140 u141 u142 u143 u144 u145 u146 u147 u148 u149 u150 u151 u152 u153 u154 u155 u156 u157 u158 u159 u160 u161 u162 u163 u164 u165 u166 u167 u168 u169 u170 u171 u172 u173 u174 u175 u176 u177 u178 u179 u180 u181 u182 u183 : Value} {a3 : Option Addr} {cap3 : Nat} {st st1 : St} {W Y : World} {B H : Nat} {κ : Nat → Role} {zd zg zv : Value} {a6 : Option Addr} {q6 : Nat} {cs : Array Value}
    (hsl : st.d.s.length ≤ 1000) (hp20 : st1.p.length ≤ 20) (bS : BoxC Y (H + 1) 42 cs) (hcs : cs[0]? = some (.slice a3 st.d.s.length cap3) ∧ cs[1]? = some (.int .u64 st.d.c) ∧ cs[2]? = some (.int .u64 st.d.o)) (hsW : NumSl .u64 W (.slice a3 st.d.s.length cap3) st.d.s)
    (M : LMid W.heap.size κ W B st1 zd zg zv (.slice a6 st1.p.length q6) Y)
    (hK : ∀ (s : Nat → Value) (p7 : Value) (κ' : Nat → Role) (g7 o7 c7 : Nat) (X : World), LMid W.heap.size κ' W B { st1 with p := st1.p ++ [st.d] } zd zg zv (.slice (some ⟨g7, o7, none⟩) (st1.p.length + 1) c7) X → st1.p.length + 1 ≤ c7 → c7 ≤ maxLen → Q .normal { tmps := #[u0, u1, u2, u3, .pointer (some ⟨H + 1, 0, none⟩), u5, u6, u7, u8, .pointer (some ⟨B, 0, none⟩), u10, u11, u12, u13, u14, u15, u16, u17, u18, u19, u20, u21, u22, u23, u24, u25, u26, u27, u28, u29, u30, u31, u32, u33, u34, u35, u36, u37, u38, u39, u40, u41, u42, u43, u44, u45, u46, u47, u48, u49, u50, u51, u52, u53, u54, u55, u56, u57, u58, u59, u60, u61, u62, u63, u64, u65, u66, u67, u68, u69, u70, u71, u72, u73, u74, u75, u76, u77, u78, u79, u80, u81, u82, u83, u84, u85, u86, u87, u88, u89, u90, u91, u92, u93, u94, u95, u96, u97, u98, u99, u100, u101, u102, u103, u104, u105, u106, u107, u108, u109, u110, u111, u112, u113, u114, u115, u116, u117, u118, u119, u120, u121, u122, u123, u124, u125, u126, u127, u128, u129, u130, u131, u132, u133, u134, u135, u136, u137, u138, u139, u140, u141, u142, u143, u144, u145, u146, u147, u148, u149, u150, u151, u152, u153, u154, u155, u156, u157, u158, u159, u160, u161, u162, u163, u164, u165, s 0, s 1, s 2, s 3, s 4, s 5, s 6, p7, u174, u175, u176, u177, u178, u179, u180, u181, u182, u183], defers := [] } X) :
    (Code.region 29 #[{ dst := some 166, op := Op.fieldAddr 42 (Operand.tmp 9) 4, type := 0, pos := "law.go:290", after := #[], guard := none }, { dst := some 167, op := Op.load 40 (Operand.tmp 166), type := 40, pos := "law.go:290", after := #[{ on := 0, ground := Ground.data }], guard := none }, { dst := some 168, op := Op.fieldAddr 42 (Operand.tmp 4) 0, type := 0, pos := "law.go:290", after := #[], guard := none }, { dst := some 169, op := Op.load 37 (Operand.tmp 168), type := 37, pos := "law.go:290", after := #[{ on := 2, ground := Ground.data }], guard := none }, { dst := some 170, op := Op.call { callee := Callee.value (Operand.func 18), args := #[Operand.tmp 169], argTypes := #[37] }, type := 37, pos := "law.go:290", after := #[{ on := 3, ground := Ground.data }], guard := none }, { dst := some 171, op := Op.buildSlice 40 1 #[(0, Operand.tmp 170)], type := 40, pos := "law.go:290", after := #[{ on := 4, ground := Ground.data }], guard := none }, { dst := some 172, op := Op.call { callee := Callee.builtin Builtin.append, args := #[Operand.tmp 167, Operand.tmp 171], argTypes := #[40, 40] }, type := 40, pos := "law.go:290", after := #[{ on := 1, ground := Ground.data }, { on := 5, ground := Ground.data }, { on := 4, ground := Ground.chain }], guard := none }, { dst := some 173, op := Op.fieldAddr 42 (Operand.tmp 9) 4, type := 0, pos := "law.go:290", after := #[{ on := 0, ground := Ground.phase }, { on := 1, ground := Ground.phase }, { on := 2, ground := Ground.phase }, { on := 3, ground := Ground.phase }, { on := 4, ground := Ground.phase }, { on := 5, ground := Ground.phase }, { on := 6, ground := Ground.phase }], guard := none }, { dst := none, op := Op.store 40 (Operand.tmp 173) (Operand.tmp 172), type := 0, pos := "law.go:290", after := #[{ on := 7, ground := Ground.data }, { on := 6, ground := Ground.data }, { on := 6, ground := Ground.chain }, { on := 0, ground := Ground.phase }, { on := 1, ground := Ground.phase }, { on := 2, ground := Ground.phase }, { on := 3, ground := Ground.phase }, { on := 4, ground := Ground.phase }, { on := 5, ground := Ground.phase }, { on := 6, ground := Ground.phase }], guard := none }] true).wp Try.prog Q { tmps := #[u0, u1, u2, u3, .pointer (some ⟨H + 1, 0, none⟩), u5, u6, u7, u8, .pointer (some ⟨B, 0, none⟩), u10, u11, u12, u13, u14, u15, u16, u17, u18, u19, u20, u21, u22, u23, u24, u25, u26, u27, u28, u29, u30, u31, u32, u33, u34, u35, u36, u37, u38, u39, u40, u41, u42, u43, u44, u45, u46, u47, u48, u49, u50, u51, u52, u53, u54, u55, u56, u57, u58, u59, u60, u61, u62, u63, u64, u65, u66, u67, u68, u69, u70, u71, u72, u73, u74, u75, u76, u77, u78, u79, u80, u81, u82, u83, u84, u85, u86, u87, u88, u89, u90, u91, u92, u93, u94, u95, u96, u97, u98, u99, u100, u101, u102, u103, u104, u105, u106, u107, u108, u109, u110, u111, u112, u113, u114, u115, u116, u117, u118, u119, u120, u121, u122, u123, u124, u125, u126, u127, u128, u129, u130, u131, u132, u133, u134, u135, u136, u137, u138, u139, u140, u141, u142, u143, u144, u145, u146, u147, u148, u149, u150, u151, u152, u153, u154, u155, u156, u157, u158, u159, u160, u161, u162, u163, u164, u165, u166, u167, u168, u169, u170, u171, u172, u173, u174, u175, u176, u177, u178, u179, u180, u181, u182, u183], defers := [] } Y := by
  obtain ⟨us, hrow, hels⟩ := M.o.p
  have hlY := M.ls
  refine region_head 7 (fun s => #[u0, u1, u2, u3, .pointer (some ⟨H + 1, 0, none⟩), u5, u6, u7, u8, .pointer (some ⟨B, 0, none⟩), u10, u11, u12, u13, u14, u15, u16, u17, u18, u19, u20, u21, u22, u23, u24, u25, u26, u27, u28, u29, u30, u31, u32, u33, u34, u35, u36, u37, u38, u39, u40, u41, u42, u43, u44, u45, u46, u47, u48, u49, u50, u51, u52, u53, u54, u55, u56, u57, u58, u59, u60, u61, u62, u63, u64, u65, u66, u67, u68, u69, u70, u71, u72, u73, u74, u75, u76, u77, u78, u79, u80, u81, u82, u83, u84, u85, u86, u87, u88, u89, u90, u91, u92, u93, u94, u95, u96, u97, u98, u99, u100, u101, u102, u103, u104, u105, u106, u107, u108, u109, u110, u111, u112, u113, u114, u115, u116, u117, u118, u119, u120, u121, u122, u123, u124, u125, u126, u127, u128, u129, u130, u131, u132, u133, u134, u135, u136, u137, u138, u139, u140, u141, u142, u143, u144, u145, u146, u147, u148, u149, u150, u151, u152, u153, u154, u155, u156, u157, u158, u159, u160, u161, u162, u163, u164, u165, s 0, s 1, s 2, s 3, s 4, s 5, s 6, u173, u174, u175, u176, u177, u178, u179, u180, u181, u182, u183]) (fun i => match i with | 0 => u166 | 1 => u167 | 2 => u168 | 3 => u169 | 4 => u170 | 5 => u171 | 6 => u172 | _ => undef) [] (SpP W.heap.size κ Y.heap.size B H (.slice a6 st1.p.length q6) st1.p.length (regC us st1.p) (.slice a3 st.d.s.length cap3) st.d) (NpP W.heap.size κ Y.heap.size (.slice a6 st1.p.length q6) st1.p.length (regC us st1.p)) (KeepE W.heap.size (kapN κ Y.heap.size) (7, 0, 0) 37 W Y) (OneR W.heap.size (kapN κ Y.heap.size) (7, 0, 0) 37 6) (by kernel_rfl) (by kernel_rfl) (by kernel_rfl) (by kernel_rfl) (by decide) (by kernel_rfl) ?base ?need ?step (fun i j u X X' hij _ h hr => spP_stable hij h hr) (fun i j X X' hij _ h hr => npP_stable hij h hr) ?tail
  case base => exact KeepE.start M.bl hlY
  case need => exact fun i _ _ => RowX.drew (hrow.rekey (fun b _ hb h => (kfrom_old hb).trans h))
  case step =>
    intro i o hi ho s X hb hn hd
    have same : ∀ i, i ≠ 6 → OneR W.heap.size (kapN κ Y.heap.size) (7, 0, 0) 37 6 i X X := fun i h1 => .inr ⟨h1, Below.refl _ _⟩
    have cB := hb.box M.b (by decide)
    have cS := hb.box bS (by decide)
    match i, hi with
    | 0, _ =>
      simp at ho
      subst ho
      exact wp_val (v := .pointer (some ⟨B, 6, none⟩)) (X' := X) (by simp [execOp, go_sem]) ⟨_, by simp [Act.put, upd], hb, rfl, same 0 (by decide)⟩
    | 1, _ =>
      simp at ho
      subst ho
      have h0 : s 0 = .pointer (some ⟨B, 6, none⟩) := hd ⟨0, .data⟩ (by simp) rfl
      have hc := cB.cell 6 rfl
      exact wp_val (v := .slice a6 st1.p.length q6) (X' := X) (by simp [execOp, go_sem, h0, hc]) ⟨_, by simp [Act.put, upd], hb, rfl, same 1 (by decide)⟩
    | 2, _ =>
      simp at ho
      subst ho
      exact wp_val (v := .pointer (some ⟨H + 1, 0, none⟩)) (X' := X) (by simp [execOp, go_sem]) ⟨_, by simp [Act.put, upd], hb, rfl, same 2 (by decide)⟩
    | 3, _ =>
      simp at ho
      subst ho
      have h2 : s 2 = .pointer (some ⟨H + 1, 0, none⟩) := hd ⟨2, .data⟩ (by simp) rfl
      have c0 := cS.cell 0 hcs.1
      have c1 := cS.cell 1 hcs.2.1
      have c2 := cS.cell 2 hcs.2.2
      exact wp_val (v := regV (.slice a3 st.d.s.length cap3) st.d.c st.d.o) (X' := X) (by simp [execOp, go_sem, h2, c0, c1, c2]) ⟨_, by simp [Act.put, upd], hb, rfl, same 3 (by decide)⟩
    | 4, _ =>
      simp at ho
      subst ho
      have h3 : s 3 = regV (.slice a3 st.d.s.length cap3) st.d.c st.d.o := hd ⟨3, .data⟩ (by simp) rfl
      have hent : ∀ (args : Array Value) (X : World), (callFunc 18 args).run Try.prog X = .ok (.enter 18 args) X := by intro _ _; rfl
      have hc := lawClone_any (.slice a3 st.d.s.length cap3) st.d X (NumSl.mono hsW hb.below) hsl
      refine wp_enter (f := 18) (args := #[regV (.slice a3 st.d.s.length cap3) st.d.c st.d.o]) (by simp [go_sem, h3, hent]) (hc.mono ?_)
      rintro e X2 ⟨v', rfl, hnu, hb2⟩
      exact ⟨_, rfl, _, by simp [Act.put, upd], hb.step (i := 4) (ia := 6) (.inr ⟨by decide, hb2⟩), ⟨v', rfl, hnu.low hb.size⟩, .inr ⟨by decide, hb2⟩⟩
    | 5, _ =>
      simp at ho
      subst ho
      obtain ⟨v', h4, hnu⟩ : ∃ v', s 4 = regV v' st.d.c st.d.o ∧ NewU Y.heap.size st.d.s v' X := hd ⟨4, .data⟩ (by simp) rfl
      obtain ⟨a9, c9, rfl⟩ := hnu.num.len
      have hX : Below X.heap.size X (X.alloc (.cells #[.slice a9 st.d.s.length c9, .int .u64 st.d.c, .int .u64 st.d.o] 37)) := (Below.refl _ X).alloc (Nat.le_refl _) _
      have hR : OneR W.heap.size (kapN κ Y.heap.size) (7, 0, 0) 37 6 5 X (X.alloc (.cells #[.slice a9 st.d.s.length c9, .int .u64 st.d.c, .int .u64 st.d.o] 37)) := .inr ⟨by decide, hX⟩
      have bN := BoxC.new X 37 #[.slice a9 st.d.s.length c9, .int .u64 st.d.c, .int .u64 st.d.o]
      exact wp_val (v := .slice (some ⟨X.heap.size, 0, none⟩) 1 1) (X' := X.alloc (.cells #[.slice a9 st.d.s.length c9, .int .u64 st.d.c, .int .u64 st.d.o] 37)) (by simp [execOp, go_sem, h4]) ⟨_, by simp [Act.put, upd], hb.step hR, ⟨_, ⟨X.heap.size, rfl, hb.size, by simp, bN.cell 0 rfl, bN.cell 1 rfl, bN.cell 2 rfl⟩, hnu.below hX⟩, hR⟩
    | 6, _ =>
      simp at ho
      subst ho
      have h1 : s 1 = .slice a6 st1.p.length q6 := hd ⟨1, .data⟩ (by simp) rfl
      obtain ⟨v', ⟨b, e5, hb1, hb2, k0, k1, k2⟩, hnu⟩ : ∃ v', NewReg Y.heap.size st.d v' (s 5) X ∧ NewU Y.heap.size st.d.s v' X := hd ⟨5, .data⟩ (by simp) rfl
      obtain ⟨a9, c9, rfl⟩ := hnu.num.len
      exact wp_apX ap40 (.tmp 167) (.tmp 171) rfl (by show s 1 = _; exact h1) (hn rfl) hb.los ⟨b, 0, none⟩ 1 [.slice a9 st.d.s.length c9, .int .u64 st.d.c, .int .u64 st.d.o] (by show s 5 = _; exact e5) rfl (news_reg k0 k1 k2) (by simp [Value.oneCell']) (by unfold maxLen; omega) (by omega)
        (fun v2 w' r1 r2 r3 => ⟨v2, by simp [Act.put, upd], hb.step (i := 6) (.inl ⟨rfl, r2, r3⟩), ⟨_, _, (fun _ hb' => (kfrom_old (Nat.lt_of_lt_of_le hb' hb.size)).trans (kfrom_old hb')), r1, hnu.step (κ := κ) (i := 6) (ia := 6) (e := 37) (r := (7, 0, 0)) (by decide) (.inl ⟨rfl, r2, r3⟩)⟩, .inl ⟨rfl, r2, r3⟩⟩)
  case tail =>
    intro s X hb hS
    obtain ⟨κ', v', hk, hrow2, hnew⟩ := LongP.merge (hS 6 (by decide)) st1.p.length hlY
    have hD := hb.row M.o.d (by simp) hk
    have mv : ∀ S : Nat → Prop, (∀ t, S t → t ≠ 7) → Mv W.heap.size κ Y W.heap.size κ' X S := fun S hS r e size v n C h1 _ h => hb.row h (fun e => hS _ h1 (by rw [e])) hk
    have hG := M.o.g.mv (mv _ (fun t h => by omega))
    have hV := M.o.v.mv (mv _ (fun t h => by omega))
    have hP := RegsO.mk_push (rg := st.d) (rs := fun j => (8, j, 0)) hrow2 (fun j hj => mv (fun t => t = 8) (fun t h => by omega) _ _ _ _ _ _ rfl (by decide) (hels j hj)) hnew
    obtain ⟨g7, o7, c7, h6, hg7, hk7, hl7, hn7, hm7, -⟩ := hrow2.at2 (by omega)
    rw [h6] at hP
    have cB := hb.box M.b (by decide)
    have x6 := cB.cell 6 rfl
    have f6 := cB.frozen 6
    have b7 := cB.set 6 (.slice (some ⟨g7, o7, none⟩) (st1.p.length + 1) c7)
    have m7 := fun S => Mv.box (lo := W.heap.size) (κ := κ') S cB 6 (.slice (some ⟨g7, o7, none⟩) (st1.p.length + 1) c7)
    simp only [List.setIfInBounds_toArray, List.set_cons_zero, List.set_cons_succ] at b7
    have M7 : LMid W.heap.size κ' W B { st1 with p := st1.p ++ [st.d] } zd zg zv (.slice (some ⟨g7, o7, none⟩) (st1.p.length + 1) c7) (X.setCell ⟨B, 6, none⟩ (.slice (some ⟨g7, o7, none⟩) (st1.p.length + 1) c7)) :=
      ⟨b7, ⟨m7 (fun t => t = 0) _ _ _ _ _ _ rfl (by decide) hD, hG.mv (m7 _), hV.mv (m7 _), PastO.mv hP (m7 _)⟩, hb.below.setCell (p := ⟨B, 6, none⟩) M.le _, M.le, Nat.le_trans hb.los (by simp)⟩
    have hfin := fun p7 => hK s p7 κ' g7 o7 c7 _ M7 hn7 hm7
    simp only [h6] at hfin ⊢
    simp only [List.drop_succ_cons, List.drop_zero]
    clear hS hb hP hG hV hD mv hels hrow hrow2 hnew m7 b7 M7 hK M bS hsW
    replace hfin := Lib.hid hfin
    go_wp2_with fail
    exact hfin.out _
end Go.Proofs.Ytgnamahdchefnaa
