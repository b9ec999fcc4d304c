/- A region of the model's step that copies the levels and makes two slices, in whatever order. Conditions: at most 30 nodes. -/
import Derived.Test.YtfefocgekmeahaaW9
namespace Go.Proofs.Ytfefocgekmeahaa
open Go.RowKit Go.Shelf
attribute [local go_sem] Oper.semAt_some

/-- a copy of a list behind an empty one -/
theorem run_copy39 (ad : Addr) (au : Option Addr) (n cu : Nat) (lv : List Int) (X : World) (base : Nat) (hb : base ≤ X.heap.size) (hu : NumSl .i64 X (.slice au n cu) lv) (hl : lv.length = n) (hn : n ≤ 1000) :
    ∃ a c g X', (Builtin.append_ #[39, 39] 39 #[.slice (some ad) 0 0, .slice au n cu]).run Try.prog X = .ok (.slice a n c) X' ∧ base ≤ g ∧ RowG base g (.slice a n c) n lv X' ∧ Below X.heap.size X X' ∧ (0 < n → X.heap.size ≤ g ∧ g < X'.heap.size ∧ a = some ⟨g, 0, none⟩) := by
  obtain ⟨i0, hi, hz0, hz1, hz2⟩ := info_parts info3
  rcases Nat.eq_zero_or_pos n with h0 | h0
  · subst h0
    refine ⟨some ad, 0, X.heap.size, X, ?_, hb, ⟨hl, fun h => absurd h (by decide)⟩, Below.refl _ _, fun h => absurd h (by decide)⟩
    cases au <;> simp [Builtin.append_, run_underlying Try.underlying39, sizeOf, typeInfo, hi, Builtin.lenOf, Builtin.firstCells, loadCells, loadCellsFrom, storeCells]
  · subst hl
    obtain ⟨b, off, cap, he, hc⟩ := hu.at h0
    cases he
    obtain ⟨v', X', hr, q1, q2⟩ := run_append_arg_grows (P := Try.prog) X 39 39 3 i0 (.int .i64 0) 1 8 Try.underlying39 hi hz0 hz1 hz2 rfl (by decide) ad 0 0 [] rfl (by simp) ⟨b, off, none⟩ lv.length cu (lv.map (Value.int .i64)) (by simp) (news_of hu) (by omega) (by unfold maxLen; omega) (by omega)
    rw [Nat.zero_add, List.nil_append] at q1
    obtain ⟨g, cap, rfl, h1, h2⟩ := q1.form h0
    exact ⟨_, cap, g, X', hr, by omega, RowG.low ⟨rfl, fun _ => ⟨cap, rfl, q1⟩⟩ hb, ⟨q2.os, q2.tape, q2.output, q2.size, fun k hk => q2.block k hk (by simp)⟩, fun _ => ⟨h1, h2, rfl⟩⟩

/-- behind the region: a state of the levels and two rows of zeros -/
def BuiltM (n : Nat) (lv : List Int) (W : World) (F : (Nat → Value) → Array Value) : Exit → Act → World → Prop := fun e a X =>
  e = .normal ∧ ∃ (s : Nat → Value) (Bs : Nat) (a1 : Option Addr) (c1 g1 g2 g3 : Nat), a = { tmps := F s, defers := [] } ∧ s 8 = .pointer (some ⟨Bs, 0, none⟩) ∧ W.heap.size ≤ Bs ∧
    BoxC X Bs 44 #[.slice a1 n c1, .slice (some ⟨g2, 0, none⟩) n n, .slice (some ⟨g3, 0, none⟩) n n] ∧
    RowG W.heap.size g1 (.slice a1 n c1) n lv X ∧ RowG W.heap.size g2 (.slice (some ⟨g2, 0, none⟩) n n) n (zeros n) X ∧ RowG W.heap.size g3 (.slice (some ⟨g3, 0, none⟩) n n) n (zeros n) X ∧
    W.heap.size ≤ g1 ∧ W.heap.size ≤ g2 ∧ W.heap.size ≤ g3 ∧ (0 < n → g1 ≠ g2) ∧ (0 < n → g1 ≠ g3) ∧ g2 ≠ g3 ∧ Below W.heap.size W X

def MadeL (W : World) (n : Nat) (lv : List Int) (v : Value) (X : World) : Prop := ∃ a c g, v = .slice a n c ∧ W.heap.size ≤ g ∧ RowG W.heap.size g (.slice a n c) n lv X ∧ (0 < n → a = some ⟨g, 0, none⟩)
theorem MadeL.mono {W X X' : World} {n : Nat} {lv : List Int} {v : Value} (h : MadeL W n lv v X) (hb : Below X.heap.size X X') : MadeL W n lv v X' := by
  obtain ⟨a, c, g, h1, h2, h3, h4⟩ := h
  exact ⟨a, c, g, h1, h2, h3.grown hb, h4⟩
def mdSp (W : World) (n cu : Nat) (au : Option Addr) (lv : List Int) : Nat → Value → World → Prop
  | 0, v, _ => ∃ ad, v = .slice (some ad) 0 0
  | 1, v, _ => v = .slice au n cu
  | 2, v, X => MadeL W n lv v X
  | 3, v, _ => v = .int .i64 n
  | 4, v, X => MadeZ W n v X
  | 5, v, _ => v = .int .i64 n
  | 6, v, X => MadeZ W n v X
  | 7, v, X => ∃ a1 c1 g1 g2 g3, v = .agg #[.slice a1 n c1, .slice (some ⟨g2, 0, none⟩) n n, .slice (some ⟨g3, 0, none⟩) n n] ∧ W.heap.size ≤ g1 ∧ W.heap.size ≤ g2 ∧ W.heap.size ≤ g3 ∧ (0 < n → g1 ≠ g2) ∧ (0 < n → g1 ≠ g3) ∧ g2 ≠ g3 ∧
      RowG W.heap.size g1 (.slice a1 n c1) n lv X ∧ RowG W.heap.size g2 (.slice (some ⟨g2, 0, none⟩) n n) n (zeros n) X ∧ RowG W.heap.size g3 (.slice (some ⟨g3, 0, none⟩) n n) n (zeros n) X
  | 8, v, X => ∃ B, v = .pointer (some ⟨B, 0, none⟩) ∧ W.heap.size ≤ B ∧ BoxC X B 44 #[.slice none 0 0, .slice none 0 0, .slice none 0 0]
  | _, _, _ => True
def mdMk (n : Nat) (i : Nat) (v : Value) : Option Nat := if i = 4 ∨ i = 6 ∨ (i = 2 ∧ 0 < n) then v.ownBlock else none
theorem mdSp_mono {W X X' : World} {n cu : Nat} {au : Option Addr} {lv : List Int} (hb : Below X.heap.size X X') : ∀ (i : Nat) (v : Value), mdSp W n cu au lv i v X → mdSp W n cu au lv i v X'
  | 0, _, h => h
  | 1, _, h => h
  | 2, _, h => MadeL.mono h hb
  | 3, _, h => h
  | 4, _, h => MadeZ.mono h hb
  | 5, _, h => h
  | 6, _, h => MadeZ.mono h hb
  | 7, _, h => by
    obtain ⟨a1, c1, g1, g2, g3, e, h1, h2, h3, h4, h5, h6, r1, r2, r3⟩ := h
    exact ⟨a1, c1, g1, g2, g3, e, h1, h2, h3, h4, h5, h6, r1.grown hb, r2.grown hb, r3.grown hb⟩
  | 8, _, h => by
    obtain ⟨B, h1, h2, h3⟩ := h
    exact ⟨B, h1, h2, h3.grown hb⟩
  | _ + 9, _, _ => trivial

set_option maxRecDepth 100000 in
set_option maxHeartbeats 4000000 in
theorem md_region (sup : Int) (av au ax : Option Addr) (n cv cu cx B3 B6 G : Nat) (lv : List Int) (W : World) (hu : NumSl .i64 W (.slice au n cu) lv) (hl : lv.length = n) (hn : n ≤ 30) (u10 u27 u28 u29 u30 u31 u32 u33 u34 u35 u36 u37 u38 u39 u40 u41 u42 u43 u44 u45 u46 u47 u48 u49 u50 u51 u52 u53 u54 u55 u56 u57 u58 u59 u60 u61 u62 u63 u64 u65 u66 u67 u68 u69 u70 u71 u72 u73 u74 u75 : Value) :
    (Go.Code.region 11 #[{ dst := some 76, op := Go.Op.buildSlice 39 0 #[], type := 39, pos := "law.go:93", after := #[], guard := none }, { dst := some 77, op := Go.Op.move (Go.Operand.tmp 1), type := 39, pos := "law.go:93", after := #[], guard := none }, { dst := some 78, op := Go.Op.call { callee := Go.Callee.builtin Go.Builtin.append, args := #[Go.Operand.tmp 76, Go.Operand.tmp 77], argTypes := #[39, 39] }, type := 39, pos := "law.go:93", after := #[{ on := 0, ground := Go.Ground.data }, { on := 1, ground := Go.Ground.data }], guard := none }, { dst := some 79, op := Go.Op.move (Go.Operand.tmp 7), type := 3, pos := "law.go:93", after := #[], guard := none }, { dst := some 80, op := Go.Op.makeSlice 39 (Go.Operand.tmp 79) (Go.Operand.tmp 79), type := 39, pos := "law.go:93", after := #[{ on := 3, ground := Go.Ground.data }, { on := 3, ground := Go.Ground.data }], guard := none }, { dst := some 81, op := Go.Op.move (Go.Operand.tmp 7), type := 3, pos := "law.go:93", after := #[], guard := none }, { dst := some 82, op := Go.Op.makeSlice 39 (Go.Operand.tmp 81) (Go.Operand.tmp 81), type := 39, pos := "law.go:93", after := #[{ on := 5, ground := Go.Ground.data }, { on := 5, ground := Go.Ground.data }], guard := none }, { dst := some 83, op := Go.Op.build 44 #[(0, Go.Operand.tmp 78), (1, Go.Operand.tmp 80), (2, Go.Operand.tmp 82)], type := 44, pos := "law.go:93", after := #[{ on := 2, ground := Go.Ground.data }, { on := 4, ground := Go.Ground.data }, { on := 6, ground := Go.Ground.data }], guard := none }, { dst := some 11, op := Go.Op.alloc 44, type := 0, pos := "law.go:93", after := #[], guard := none }, { dst := none, op := Go.Op.store 44 (Go.Operand.tmp 11) (Go.Operand.tmp 83), type := 0, pos := "law.go:93", after := #[{ on := 8, ground := Go.Ground.data }, { on := 7, ground := Go.Ground.data }, { on := 2, ground := Go.Ground.chain }, { on := 0, ground := Go.Ground.phase }, { on := 1, ground := Go.Ground.phase }, { on := 2, ground := Go.Ground.phase }, { on := 3, ground := Go.Ground.phase }, { on := 4, ground := Go.Ground.phase }, { on := 5, ground := Go.Ground.phase }, { on := 6, ground := Go.Ground.phase }, { on := 7, ground := Go.Ground.phase }, { on := 8, ground := Go.Ground.phase }], guard := none }] true).wp Try.prog (BuiltM n lv W (fun s => #[.agg #[.int .i64 sup, .slice av n cv], .slice au n cu, .slice ax n cx, .pointer (some ⟨B3, 0, none⟩), undef, undef, .pointer (some ⟨B6, 0, none⟩), .int .i64 (n : Int), .slice (some ⟨G, 0, none⟩) n n, .int .i64 (-1), u10, s 8, undef, undef, undef, undef, undef, undef, .pointer (some ⟨B3, 1, none⟩), .slice av n cv, .int .i64 (n : Int), .int .i64 (n : Int), .slice (some ⟨G, 0, none⟩) n n, .int .i64 (n : Int), .int .i64 ((n : Int) - 1), .int .i64 (-1), .bool false, u27, u28, u29, u30, u31, u32, u33, u34, u35, u36, u37, u38, u39, u40, u41, u42, u43, u44, u45, u46, u47, u48, u49, u50, u51, u52, u53, u54, u55, u56, u57, u58, u59, u60, u61, u62, u63, u64, u65, u66, u67, u68, u69, u70, u71, u72, u73, u74, u75, s 0, s 1, s 2, s 3, s 4, s 5, s 6, s 7, undef, undef, undef, undef, undef, undef, undef, undef, undef, undef, undef, undef, undef, undef, undef, undef, undef, undef, undef, undef, undef, undef, undef, undef, undef, undef, undef, undef, undef, undef, undef, undef, undef, undef, undef, undef, undef, undef, undef, undef, undef, undef, undef, undef, undef, undef, undef, undef, undef, undef, undef, undef, undef, undef, undef, undef, undef, undef, undef, undef, undef, undef, undef, undef, undef, undef, undef, undef, undef, undef, undef, undef, undef, undef, undef, undef, undef, undef, undef, undef, undef, undef, undef, undef, undef, undef, undef, undef, undef, undef, undef, undef, undef, undef, undef, undef, undef, undef, undef, undef, undef, undef, undef])) { tmps := #[.agg #[.int .i64 sup, .slice av n cv], .slice au n cu, .slice ax n cx, .pointer (some ⟨B3, 0, none⟩), undef, undef, .pointer (some ⟨B6, 0, none⟩), .int .i64 (n : Int), .slice (some ⟨G, 0, none⟩) n n, .int .i64 (-1), u10, undef, undef, undef, undef, undef, undef, undef, .pointer (some ⟨B3, 1, none⟩), .slice av n cv, .int .i64 (n : Int), .int .i64 (n : Int), .slice (some ⟨G, 0, none⟩) n n, .int .i64 (n : Int), .int .i64 ((n : Int) - 1), .int .i64 (-1), .bool false, u27, u28, u29, u30, u31, u32, u33, u34, u35, u36, u37, u38, u39, u40, u41, u42, u43, u44, u45, u46, u47, u48, u49, u50, u51, u52, u53, u54, u55, u56, u57, u58, u59, u60, u61, u62, u63, u64, u65, u66, u67, u68, u69, u70, u71, u72, u73, u74, u75, undef, undef, undef, undef, undef, undef, undef, undef, undef, undef, undef, undef, undef, undef, undef, undef, undef, undef, undef, undef, undef, undef, undef, undef, undef, undef, undef, undef, undef, undef, undef, undef, undef, undef, undef, undef, undef, undef, undef, undef, undef, undef, undef, undef, undef, undef, undef, undef, undef, undef, undef, undef, undef, undef, undef, undef, undef, undef, undef, undef, undef, undef, undef, undef, undef, undef, undef, undef, undef, undef, undef, undef, undef, undef, undef, undef, undef, undef, undef, undef, undef, undef, undef, undef, undef, undef, undef, undef, undef, undef, undef, undef, undef, undef, undef, undef, undef, undef, undef, undef, undef, undef, undef, undef, undef, undef, undef, undef, undef, undef, undef], defers := [] } W := by
  have hmk := run_make39 n hn
  refine region_makers 9 (fun s => #[.agg #[.int .i64 sup, .slice av n cv], .slice au n cu, .slice ax n cx, .pointer (some ⟨B3, 0, none⟩), undef, undef, .pointer (some ⟨B6, 0, none⟩), .int .i64 (n : Int), .slice (some ⟨G, 0, none⟩) n n, .int .i64 (-1), u10, s 8, undef, undef, undef, undef, undef, undef, .pointer (some ⟨B3, 1, none⟩), .slice av n cv, .int .i64 (n : Int), .int .i64 (n : Int), .slice (some ⟨G, 0, none⟩) n n, .int .i64 (n : Int), .int .i64 ((n : Int) - 1), .int .i64 (-1), .bool false, u27, u28, u29, u30, u31, u32, u33, u34, u35, u36, u37, u38, u39, u40, u41, u42, u43, u44, u45, u46, u47, u48, u49, u50, u51, u52, u53, u54, u55, u56, u57, u58, u59, u60, u61, u62, u63, u64, u65, u66, u67, u68, u69, u70, u71, u72, u73, u74, u75, s 0, s 1, s 2, s 3, s 4, s 5, s 6, s 7, undef, undef, undef, undef, undef, undef, undef, undef, undef, undef, undef, undef, undef, undef, undef, undef, undef, undef, undef, undef, undef, undef, undef, undef, undef, undef, undef, undef, undef, undef, undef, undef, undef, undef, undef, undef, undef, undef, undef, undef, undef, undef, undef, undef, undef, undef, undef, undef, undef, undef, undef, undef, undef, undef, undef, undef, undef, undef, undef, undef, undef, undef, undef, undef, undef, undef, undef, undef, undef, undef, undef, undef, undef, undef, undef, undef, undef, undef, undef, undef, undef, undef, undef, undef, undef, undef, undef, undef, undef, undef, undef, undef, undef, undef, undef, undef, undef, undef, undef, undef, undef, undef, undef]) [] (mdSp W n cu au lv) (fun X => Below W.heap.size W X) (mdMk n) (by kernel_rfl) (by kernel_rfl) ((Below.refl _ _).drew) ?step (fun j u X X' _ h hb => mdSp_mono hb j u h) ?tail
  case step =>
    intro i o hi ho s X hb hd hne
    match i, hi with
    | 0, _ =>
      simp at ho
      subst ho
      have hx := (Below.refl X.heap.size X).alloc (Nat.le_refl _) (.cells #[] 3)
      refine wp_val (v := .slice (some ⟨X.heap.size, 0, none⟩) 0 0) (X' := X.alloc (.cells #[] 3)) (by simp [execOp, go_sem]) ⟨_, by simp [Act.put, upd], hb.trans (hx.mono hb.size), ⟨⟨X.heap.size, 0, none⟩, rfl⟩, hx, fun b h => by simp [mdMk] at h⟩
    | 1, _ =>
      simp at ho
      subst ho
      refine wp_val (v := .slice au n cu) (X' := X) (by simp [execOp, go_sem]) ⟨_, by simp [Act.put, upd], hb, rfl, Below.refl _ _, fun b h => by simp [mdMk] at h⟩
    | 2, _ =>
      simp at ho
      subst ho
      simp at hd
      obtain ⟨⟨ad, e0⟩, e1⟩ := hd
      have hE0 : ({ tmps := #[.agg #[.int .i64 sup, .slice av n cv], .slice au n cu, .slice ax n cx, .pointer (some ⟨B3, 0, none⟩), undef, undef, .pointer (some ⟨B6, 0, none⟩), .int .i64 (n : Int), .slice (some ⟨G, 0, none⟩) n n, .int .i64 (-1), u10, s 8, undef, undef, undef, undef, undef, undef, .pointer (some ⟨B3, 1, none⟩), .slice av n cv, .int .i64 (n : Int), .int .i64 (n : Int), .slice (some ⟨G, 0, none⟩) n n, .int .i64 (n : Int), .int .i64 ((n : Int) - 1), .int .i64 (-1), .bool false, u27, u28, u29, u30, u31, u32, u33, u34, u35, u36, u37, u38, u39, u40, u41, u42, u43, u44, u45, u46, u47, u48, u49, u50, u51, u52, u53, u54, u55, u56, u57, u58, u59, u60, u61, u62, u63, u64, u65, u66, u67, u68, u69, u70, u71, u72, u73, u74, u75, s 0, s 1, s 2, s 3, s 4, s 5, s 6, s 7, undef, undef, undef, undef, undef, undef, undef, undef, undef, undef, undef, undef, undef, undef, undef, undef, undef, undef, undef, undef, undef, undef, undef, undef, undef, undef, undef, undef, undef, undef, undef, undef, undef, undef, undef, undef, undef, undef, undef, undef, undef, undef, undef, undef, undef, undef, undef, undef, undef, undef, undef, undef, undef, undef, undef, undef, undef, undef, undef, undef, undef, undef, undef, undef, undef, undef, undef, undef, undef, undef, undef, undef, undef, undef, undef, undef, undef, undef, undef, undef, undef, undef, undef, undef, undef, undef, undef, undef, undef, undef, undef, undef, undef, undef, undef, undef, undef, undef, undef, undef, undef, undef, undef], defers := [] } : Act).eval (.tmp 76) = .slice (some ad) 0 0 := by simpa [go_sem] using e0
      have e1' : s 1 = .slice au n cu := e1
      have hE1 : ({ tmps := #[.agg #[.int .i64 sup, .slice av n cv], .slice au n cu, .slice ax n cx, .pointer (some ⟨B3, 0, none⟩), undef, undef, .pointer (some ⟨B6, 0, none⟩), .int .i64 (n : Int), .slice (some ⟨G, 0, none⟩) n n, .int .i64 (-1), u10, s 8, undef, undef, undef, undef, undef, undef, .pointer (some ⟨B3, 1, none⟩), .slice av n cv, .int .i64 (n : Int), .int .i64 (n : Int), .slice (some ⟨G, 0, none⟩) n n, .int .i64 (n : Int), .int .i64 ((n : Int) - 1), .int .i64 (-1), .bool false, u27, u28, u29, u30, u31, u32, u33, u34, u35, u36, u37, u38, u39, u40, u41, u42, u43, u44, u45, u46, u47, u48, u49, u50, u51, u52, u53, u54, u55, u56, u57, u58, u59, u60, u61, u62, u63, u64, u65, u66, u67, u68, u69, u70, u71, u72, u73, u74, u75, s 0, s 1, s 2, s 3, s 4, s 5, s 6, s 7, undef, undef, undef, undef, undef, undef, undef, undef, undef, undef, undef, undef, undef, undef, undef, undef, undef, undef, undef, undef, undef, undef, undef, undef, undef, undef, undef, undef, undef, undef, undef, undef, undef, undef, undef, undef, undef, undef, undef, undef, undef, undef, undef, undef, undef, undef, undef, undef, undef, undef, undef, undef, undef, undef, undef, undef, undef, undef, undef, undef, undef, undef, undef, undef, undef, undef, undef, undef, undef, undef, undef, undef, undef, undef, undef, undef, undef, undef, undef, undef, undef, undef, undef, undef, undef, undef, undef, undef, undef, undef, undef, undef, undef, undef, undef, undef, undef, undef, undef, undef, undef, undef, undef], defers := [] } : Act).eval (.tmp 77) = .slice au n cu := by simpa [go_sem] using e1'
      obtain ⟨a, c, g, X', hrun, h1, h2, h3, h4⟩ := run_copy39 ad au n cu lv X W.heap.size hb.size (hu.mono hb) hl (by omega)
      refine wp_val (v := .slice a n c) (X' := X') (by unfold execOp; simp only [resolve, invoke, builtin, Sem.run_bind, Sem.run_pure, Result.andThen_ok, List.map_toArray, List.map_cons, List.map_nil, hE0, hE1, hrun]) ⟨_, by simp [Act.put, upd], hb.trans (h3.mono hb.size), ⟨a, c, g, rfl, h1, h2, fun h => (h4 h).2.2⟩, h3, fun b h => ?_⟩
      by_cases hn0 : 0 < n
      · obtain ⟨k1, k2, rfl⟩ := h4 hn0
        simp [mdMk, hn0, Value.ownBlock] at h
        subst h
        exact ⟨k1, k2⟩
      · simp [mdMk, hn0] at h
    | 3, _ =>
      simp at ho
      subst ho
      refine wp_val (v := .int .i64 n) (X' := X) (by simp [execOp, go_sem]) ⟨_, by simp [Act.put, upd], hb, rfl, Below.refl _ _, fun b h => by simp [mdMk] at h⟩
    | 4, _ =>
      simp at ho
      subst ho
      simp at hd
      have e0 : s 3 = .int .i64 n := hd
      have hx := (Below.refl X.heap.size X).alloc (Nat.le_refl _) (.cells (madeCells #[.int .i64 0] n) 3)
      refine wp_val (v := .slice (some ⟨X.heap.size, 0, none⟩) n n) (X' := X.alloc (.cells (madeCells #[.int .i64 0] n) 3)) (by simp [execOp, go_sem, e0, hmk]) ⟨_, by simp [Act.put, upd], hb.trans (hx.mono hb.size), ⟨X.heap.size, rfl, hb.size, rowG_new hn hb.size⟩, hx, fun b h => by simp [mdMk, Value.ownBlock] at h; subst h; simp⟩
    | 5, _ =>
      simp at ho
      subst ho
      refine wp_val (v := .int .i64 n) (X' := X) (by simp [execOp, go_sem]) ⟨_, by simp [Act.put, upd], hb, rfl, Below.refl _ _, fun b h => by simp [mdMk] at h⟩
    | 6, _ =>
      simp at ho
      subst ho
      simp at hd
      have e0 : s 5 = .int .i64 n := hd
      have hx := (Below.refl X.heap.size X).alloc (Nat.le_refl _) (.cells (madeCells #[.int .i64 0] n) 3)
      refine wp_val (v := .slice (some ⟨X.heap.size, 0, none⟩) n n) (X' := X.alloc (.cells (madeCells #[.int .i64 0] n) 3)) (by simp [execOp, go_sem, e0, hmk]) ⟨_, by simp [Act.put, upd], hb.trans (hx.mono hb.size), ⟨X.heap.size, rfl, hb.size, rowG_new hn hb.size⟩, hx, fun b h => by simp [mdMk, Value.ownBlock] at h; subst h; simp⟩
    | 7, _ =>
      simp at ho
      subst ho
      have hne' := hne
      simp at hd
      obtain ⟨h2, h4, h6⟩ := hd
      obtain ⟨a1, c1, g1, e2, q1, r1, w1⟩ := h2
      obtain ⟨g2, e4, q2, r2⟩ := h4
      obtain ⟨g3, e6, q3, r3⟩ := h6
      have hg23 : g2 ≠ g3 := by
        have := hne' { on := 4, ground := .data } (by simp) { on := 6, ground := .data } (by simp) (by decide) g2 (by simp [mdMk, e4, Value.ownBlock])
        simp [mdMk, e6, Value.ownBlock] at this
        exact fun e => this e.symm
      have hg12 : 0 < n → g1 ≠ g2 := fun hn0 => by
        have := hne' { on := 2, ground := .data } (by simp) { on := 4, ground := .data } (by simp) (by decide) g1 (by simp [mdMk, e2, w1 hn0, hn0, Value.ownBlock])
        simp [mdMk, e4, Value.ownBlock] at this
        exact fun e => this e.symm
      have hg13 : 0 < n → g1 ≠ g3 := fun hn0 => by
        have := hne' { on := 2, ground := .data } (by simp) { on := 6, ground := .data } (by simp) (by decide) g1 (by simp [mdMk, e2, w1 hn0, hn0, Value.ownBlock])
        simp [mdMk, e6, Value.ownBlock] at this
        exact fun e => this e.symm
      refine wp_val (v := .agg #[.slice a1 n c1, .slice (some ⟨g2, 0, none⟩) n n, .slice (some ⟨g3, 0, none⟩) n n]) (X' := X) (by simp [execOp, go_sem, e2, e4, e6]) ⟨_, by simp [Act.put, upd], hb, ⟨a1, c1, g1, g2, g3, rfl, q1, q2, q3, hg12, hg13, hg23, r1, r2, r3⟩, Below.refl _ _, fun b h => by simp [mdMk] at h⟩
    | 8, _ =>
      simp at ho
      subst ho
      have hx := (Below.refl X.heap.size X).alloc (Nat.le_refl _) (.cells #[.slice none 0 0, .slice none 0 0, .slice none 0 0] 44)
      refine wp_val (v := .pointer (some ⟨X.heap.size, 0, none⟩)) (X' := X.alloc (.cells #[.slice none 0 0, .slice none 0 0, .slice none 0 0] 44)) (by simp [execOp, go_sem]) ⟨_, by simp [Act.put, upd], hb.trans (hx.mono hb.size), ⟨X.heap.size, rfl, hb.size, BoxC.new X 44 _⟩, hx, fun b h => by simp [mdMk] at h⟩
  case tail =>
    intro o ho s X hb hS hlt hne
    simp at ho
    subst ho
    obtain ⟨a1, c1, g1, g2, g3, e7, q1, q2, q3, h12, h13, h23, z1, z2, z3⟩ := hS 7 (by omega)
    obtain ⟨B, e8, hB, bB⟩ := hS 8 (by omega)
    have c0 := bB.cell 0 rfl
    have c1' := bB.cell 1 rfl
    have c2 := bB.cell 2 rfl
    have f0 := bB.frozen 0
    have f1 := bB.frozen 1
    have f2 := bB.frozen 2
    have hne1 : 0 < n → B ≠ g1 := z1.ne_box bB (by decide)
    have hne2 : 0 < n → B ≠ g2 := z2.ne_box bB (by decide)
    have hne3 : 0 < n → B ≠ g3 := z3.ne_box bB (by decide)
    have bF := ((bB.set 0 (.slice a1 n c1)).set 1 (.slice (some ⟨g2, 0, none⟩) n n)).set 2 (.slice (some ⟨g3, 0, none⟩) n n)
    have hsB : ∀ (i : Nat) (u : Value) (Y : World), Below W.heap.size W Y → Below W.heap.size W (Y.setCell ⟨B, i, none⟩ u) := fun i u Y h => h.setCell hB u
    refine wp_skip (X' := ((X.setCell ⟨B, 0, none⟩ (.slice a1 n c1)).setCell ⟨B, 1, none⟩ (.slice (some ⟨g2, 0, none⟩) n n)).setCell ⟨B, 2, none⟩ (.slice (some ⟨g3, 0, none⟩) n n)) (by simp [execOp, go_sem, e8, e7, c0, c1', c2, f0, f1, f2])
      ⟨rfl, s, B, a1, c1, g1, g2, g3, by simp [Act.put], e8, hB, bF, ((z1.other hne1 _).other hne1 _).other hne1 _, ((z2.other hne2 _).other hne2 _).other hne2 _, ((z3.other hne3 _).other hne3 _).other hne3 _, q1, q2, q3, h12, h13, h23, hsB _ _ _ (hsB _ _ _ (hsB _ _ _ hb))⟩
end Go.Proofs.Ytfefocgekmeahaa
