/- The contract of start: the first state of a plant. Conditions: at most 30 nodes. -/
import Derived.Test.YtfefocgekmeahaaW8
import Derived.Test.YtfefocgekmeahaaW6
import Derived.Test.YtfefocgekmeahaaMakers
namespace Go.Proofs.Ytfefocgekmeahaa
open Go.RowKit Go.Shelf

theorem rowG_new {base n : Nat} {X : World} (hm : n ≤ 30) (hb : base ≤ X.heap.size) : RowG base X.heap.size (.slice (some ⟨X.heap.size, 0, none⟩) n n) n (zeros n) (X.alloc (.cells (madeCells #[.int .i64 0] n) 3)) :=
  ⟨zeros_len n, fun _ => ⟨n, rfl, by simp [zeros], .inr ⟨X.heap.size, n, _, rfl, hb, World.alloc_heap_new X _, Nat.le_refl _, by unfold maxLen; omega, by simp [size_madeCells], by rw [toList_madeCells_one]; simp [zeros]⟩⟩⟩
theorem run_make39 (n : Nat) (hn : n ≤ 30) (X : World) : (Instr.makeSlice 39 (.int .i64 (n : Int)) (.int .i64 (n : Int))).run Try.prog X = .ok (.slice (some ⟨X.heap.size, 0, none⟩) n n) (X.alloc (.cells (madeCells #[.int .i64 0] n) 3)) := by
  obtain ⟨i0, hi, hz0, hz1, hz2⟩ := info_parts info3
  have := run_make (P := Try.prog) X 39 3 i0 (.int .i64 0) Try.underlying39 hi hz0 .i64 .i64 n n (by omega) (by omega) (by rw [hz2]; omega) (by omega)
  rw [hz1] at this
  simpa [Value.cells] using this

/-- a row of zeros that was made -/
def MadeZ (W : World) (n : Nat) (v : Value) (X : World) : Prop := ∃ g, v = .slice (some ⟨g, 0, none⟩) n n ∧ W.heap.size ≤ g ∧ RowG W.heap.size g (.slice (some ⟨g, 0, none⟩) n n) n (zeros n) X
theorem MadeZ.mono {W X X' : World} {n : Nat} {v : Value} (h : MadeZ W n v X) (hb : Below X.heap.size X X') : MadeZ W n v X' := by
  obtain ⟨g, h1, h2, h3⟩ := h
  exact ⟨g, h1, h2, h3.grown hb⟩

/-- behind the region: a state without levels, with two rows of zeros -/
def StartPost (n : Nat) (W : World) (F : Nat → Nat → Nat → Value → Value → Array Value) : Exit → Act → World → Prop := fun e a X =>
  e = .normal ∧ ∃ (Bs g2 g3 : Nat) (u1 u2 : Value), a = { tmps := F Bs g2 g3 u1 u2, defers := [] } ∧ W.heap.size ≤ Bs ∧
    BoxC X Bs 44 #[.slice none 0 0, .slice (some ⟨g2, 0, none⟩) n n, .slice (some ⟨g3, 0, none⟩) n n] ∧
    RowG W.heap.size g2 (.slice (some ⟨g2, 0, none⟩) n n) n (zeros n) X ∧ RowG W.heap.size g3 (.slice (some ⟨g3, 0, none⟩) n n) n (zeros n) X ∧
    W.heap.size ≤ g2 ∧ W.heap.size ≤ g3 ∧ g2 ≠ g3 ∧ Below W.heap.size W X

def startSp (W : World) (Bp n cv : Nat) (av : Option Addr) : Nat → Value → World → Prop
  | 0, v, _ => v = .pointer (some ⟨Bp, 1, none⟩)
  | 1, v, _ => v = .slice av n cv
  | 2, v, _ => v = .int .i64 n
  | 3, v, X => MadeZ W n v X
  | 4, v, _ => v = .pointer (some ⟨Bp, 1, none⟩)
  | 5, v, _ => v = .slice av n cv
  | 6, v, _ => v = .int .i64 n
  | 7, v, X => MadeZ W n v X
  | 8, v, X => ∃ g2 g3, v = .agg #[.slice none 0 0, .slice (some ⟨g2, 0, none⟩) n n, .slice (some ⟨g3, 0, none⟩) n n] ∧ g2 ≠ g3 ∧ MadeZ W n (.slice (some ⟨g2, 0, none⟩) n n) X ∧ MadeZ W n (.slice (some ⟨g3, 0, none⟩) n n) X
  | 9, v, X => ∃ B, v = .pointer (some ⟨B, 0, none⟩) ∧ W.heap.size ≤ B ∧ BoxC X B 44 #[.slice none 0 0, .slice none 0 0, .slice none 0 0]
  | _, _, _ => True
def startMk (i : Nat) (v : Value) : Option Nat := if i = 3 ∨ i = 7 then v.ownBlock else none

theorem startSp_mono {W X X' : World} {Bp n cv : Nat} {av : Option Addr} (hb : Below X.heap.size X X') : ∀ (i : Nat) (v : Value), startSp W Bp n cv av i v X → startSp W Bp n cv av i v X'
  | 0, _, h => h
  | 1, _, h => h
  | 2, _, h => h
  | 3, _, h => MadeZ.mono h hb
  | 4, _, h => h
  | 5, _, h => h
  | 6, _, h => h
  | 7, _, h => MadeZ.mono h hb
  | 8, _, h => by
    obtain ⟨g2, g3, h1, h2, h3, h4⟩ := h
    exact ⟨g2, g3, h1, h2, h3.mono hb, h4.mono hb⟩
  | 9, _, h => by
    obtain ⟨B, h1, h2, h3⟩ := h
    exact ⟨B, h1, h2, h3.grown hb⟩
  | _ + 10, _, _ => trivial

set_option maxRecDepth 100000 in
set_option maxHeartbeats 4000000 in
theorem start_region (sup : Int) (av : Option Addr) (n cv Bp Br : Nat) (W : World) (hp : BoxC W Bp 24 #[.int .i64 sup, .slice av n cv]) (hn : n ≤ 30) :
    (Go.Code.region 1 #[{ dst := some 6, op := Go.Op.fieldAddr 24 (Go.Operand.tmp 1) 1, type := 0, pos := "blower.go:56", after := #[], guard := none }, { dst := some 7, op := Go.Op.load 22 (Go.Operand.tmp 6), type := 22, pos := "blower.go:56", after := #[{ on := 0, ground := Go.Ground.data }], guard := none }, { dst := some 8, op := Go.Op.call { callee := Go.Callee.builtin Go.Builtin.len, args := #[Go.Operand.tmp 7], argTypes := #[22] }, type := 3, pos := "blower.go:56", after := #[{ on := 1, ground := Go.Ground.data }], guard := none }, { dst := some 9, op := Go.Op.makeSlice 39 (Go.Operand.tmp 8) (Go.Operand.tmp 8), type := 39, pos := "blower.go:56", after := #[{ on := 2, ground := Go.Ground.data }, { on := 2, ground := Go.Ground.data }], guard := none }, { dst := some 10, op := Go.Op.fieldAddr 24 (Go.Operand.tmp 1) 1, type := 0, pos := "blower.go:56", after := #[], guard := none }, { dst := some 11, op := Go.Op.load 22 (Go.Operand.tmp 10), type := 22, pos := "blower.go:56", after := #[{ on := 4, ground := Go.Ground.data }], guard := none }, { dst := some 12, op := Go.Op.call { callee := Go.Callee.builtin Go.Builtin.len, args := #[Go.Operand.tmp 11], argTypes := #[22] }, type := 3, pos := "blower.go:56", after := #[{ on := 5, ground := Go.Ground.data }], guard := none }, { dst := some 13, op := Go.Op.makeSlice 39 (Go.Operand.tmp 12) (Go.Operand.tmp 12), type := 39, pos := "blower.go:56", after := #[{ on := 6, ground := Go.Ground.data }, { on := 6, ground := Go.Ground.data }], guard := none }, { dst := some 14, op := Go.Op.build 44 #[(1, Go.Operand.tmp 9), (2, Go.Operand.tmp 13)], type := 44, pos := "blower.go:56", after := #[{ on := 3, ground := Go.Ground.data }, { on := 7, ground := Go.Ground.data }], guard := none }, { dst := some 3, op := Go.Op.alloc 44, type := 0, pos := "blower.go:56", after := #[], guard := none }, { dst := none, op := Go.Op.store 44 (Go.Operand.tmp 3) (Go.Operand.tmp 14), type := 0, pos := "blower.go:56", after := #[{ on := 9, ground := Go.Ground.data }, { on := 8, ground := Go.Ground.data }, { on := 0, ground := Go.Ground.phase }, { on := 1, ground := Go.Ground.phase }, { on := 2, ground := Go.Ground.phase }, { on := 3, ground := Go.Ground.phase }, { on := 4, ground := Go.Ground.phase }, { on := 5, ground := Go.Ground.phase }, { on := 6, ground := Go.Ground.phase }, { on := 7, ground := Go.Ground.phase }, { on := 8, ground := Go.Ground.phase }, { on := 9, ground := Go.Ground.phase }], guard := none }] true).wp Try.prog (StartPost n W (fun Bs g2 g3 u1 u2 => #[plV sup (.slice av n cv), .pointer (some ⟨Bp, 0, none⟩), .pointer (some ⟨Br, 0, none⟩), .pointer (some ⟨Bs, 0, none⟩), undef, undef, .pointer (some ⟨Bp, 1, none⟩), .slice av n cv, .int .i64 n, u1, .pointer (some ⟨Bp, 1, none⟩), .slice av n cv, .int .i64 n, u2, .agg #[.slice none 0 0, .slice (some ⟨g2, 0, none⟩) n n, .slice (some ⟨g3, 0, none⟩) n n], undef, undef, undef, undef, undef, undef, undef, undef, undef, undef, undef, undef, undef, undef, undef, undef])) { tmps := #[plV sup (.slice av n cv), .pointer (some ⟨Bp, 0, none⟩), .pointer (some ⟨Br, 0, none⟩), undef, undef, undef, undef, undef, undef, undef, undef, undef, undef, undef, undef, undef, undef, undef, undef, undef, undef, undef, undef, undef, undef, undef, undef, undef, undef, undef, undef], defers := [] } W := by
  have hmk := run_make39 n hn
  refine region_makers 10 (fun s => #[plV sup (.slice av n cv), .pointer (some ⟨Bp, 0, none⟩), .pointer (some ⟨Br, 0, none⟩), s 9, undef, undef, s 0, s 1, s 2, s 3, s 4, s 5, s 6, s 7, s 8, undef, undef, undef, undef, undef, undef, undef, undef, undef, undef, undef, undef, undef, undef, undef, undef]) [] (startSp W Bp n cv av) (fun X => Below W.heap.size W X) startMk (by kernel_rfl) (by kernel_rfl) ((Below.refl _ _).drew) ?step (fun j u X X' _ h hb => startSp_mono hb j u h) ?tail
  case step =>
    intro i o hi ho s X hb hd hne
    have hp' := hp.below hb hp.lt
    have c1 := hp'.cell 1 rfl
    match i, hi with
    | 0, _ =>
      simp at ho
      subst ho
      refine wp_val (v := .pointer (some ⟨Bp, 1, none⟩)) (X' := X) (by simp [execOp, go_sem]) ⟨_, by simp [Act.put, upd], hb, rfl, Below.refl _ _, fun b h => by simp [startMk] at h⟩
    | 1, _ =>
      simp at ho
      subst ho
      simp at hd
      have e0 : s 0 = .pointer (some ⟨Bp, 1, none⟩) := hd
      refine wp_val (v := .slice av n cv) (X' := X) (by simp [execOp, go_sem, e0, c1]) ⟨_, by simp [Act.put, upd], hb, rfl, Below.refl _ _, fun b h => by simp [startMk] at h⟩
    | 2, _ =>
      simp at ho
      subst ho
      simp at hd
      have e0 : s 1 = .slice av n cv := hd
      refine wp_val (v := .int .i64 n) (X' := X) (by simp [go_sem, e0]) ⟨_, by simp [Act.put, upd], hb, rfl, Below.refl _ _, fun b h => by simp [startMk] at h⟩
    | 3, _ =>
      simp at ho
      subst ho
      simp at hd
      have e0 : s 2 = .int .i64 n := hd
      have hx := (Below.refl X.heap.size X).alloc (Nat.le_refl _) (.cells (madeCells #[.int .i64 0] n) 3)
      refine wp_val (v := .slice (some ⟨X.heap.size, 0, none⟩) n n) (X' := X.alloc (.cells (madeCells #[.int .i64 0] n) 3)) (by simp [execOp, go_sem, e0, hmk]) ⟨_, by simp [Act.put, upd], hb.trans (hx.mono hb.size), ⟨X.heap.size, rfl, hb.size, rowG_new hn hb.size⟩, hx, fun b h => by simp [startMk, Value.ownBlock] at h; subst h; simp⟩
    | 4, _ =>
      simp at ho
      subst ho
      refine wp_val (v := .pointer (some ⟨Bp, 1, none⟩)) (X' := X) (by simp [execOp, go_sem]) ⟨_, by simp [Act.put, upd], hb, rfl, Below.refl _ _, fun b h => by simp [startMk] at h⟩
    | 5, _ =>
      simp at ho
      subst ho
      simp at hd
      have e0 : s 4 = .pointer (some ⟨Bp, 1, none⟩) := hd
      refine wp_val (v := .slice av n cv) (X' := X) (by simp [execOp, go_sem, e0, c1]) ⟨_, by simp [Act.put, upd], hb, rfl, Below.refl _ _, fun b h => by simp [startMk] at h⟩
    | 6, _ =>
      simp at ho
      subst ho
      simp at hd
      have e0 : s 5 = .slice av n cv := hd
      refine wp_val (v := .int .i64 n) (X' := X) (by simp [go_sem, e0]) ⟨_, by simp [Act.put, upd], hb, rfl, Below.refl _ _, fun b h => by simp [startMk] at h⟩
    | 7, _ =>
      simp at ho
      subst ho
      simp at hd
      have e0 : s 6 = .int .i64 n := hd
      have hx := (Below.refl X.heap.size X).alloc (Nat.le_refl _) (.cells (madeCells #[.int .i64 0] n) 3)
      refine wp_val (v := .slice (some ⟨X.heap.size, 0, none⟩) n n) (X' := X.alloc (.cells (madeCells #[.int .i64 0] n) 3)) (by simp [execOp, go_sem, e0, hmk]) ⟨_, by simp [Act.put, upd], hb.trans (hx.mono hb.size), ⟨X.heap.size, rfl, hb.size, rowG_new hn hb.size⟩, hx, fun b h => by simp [startMk, Value.ownBlock] at h; subst h; simp⟩
    | 8, _ =>
      simp at ho
      subst ho
      have hne' := hne
      simp at hd
      obtain ⟨h3, h7⟩ := hd
      obtain ⟨g2, e3, q3, r3⟩ := h3
      obtain ⟨g3, e7, q7, r7⟩ := h7
      have hg : g2 ≠ g3 := by
        have := hne' { on := 3, ground := .data } (by simp) { on := 7, ground := .data } (by simp) (by decide) g2 (by simp [startMk, e3, Value.ownBlock])
        simp [startMk, e7, Value.ownBlock] at this
        exact fun e => this e.symm
      refine wp_val (v := .agg #[.slice none 0 0, .slice (some ⟨g2, 0, none⟩) n n, .slice (some ⟨g3, 0, none⟩) n n]) (X' := X) (by simp [execOp, go_sem, e3, e7]) ⟨_, by simp [Act.put, upd], hb, ⟨g2, g3, rfl, hg, ⟨g2, rfl, q3, r3⟩, ⟨g3, rfl, q7, r7⟩⟩, Below.refl _ _, fun b h => by simp [startMk] at h⟩
    | 9, _ =>
      simp at ho
      subst ho
      have hx := (Below.refl X.heap.size X).alloc (Nat.le_refl _) (.cells #[.slice none 0 0, .slice none 0 0, .slice none 0 0] 44)
      refine wp_val (v := .pointer (some ⟨X.heap.size, 0, none⟩)) (X' := X.alloc (.cells #[.slice none 0 0, .slice none 0 0, .slice none 0 0] 44)) (by simp [execOp, go_sem]) ⟨_, by simp [Act.put, upd], hb.trans (hx.mono hb.size), ⟨X.heap.size, rfl, hb.size, BoxC.new X 44 _⟩, hx, fun b h => by simp [startMk] at h⟩
  case tail =>
    intro o ho s X hb hS hlt hne
    simp at ho
    subst ho
    have h0 := hS 0 (by omega)
    have h1 := hS 1 (by omega)
    have h2 := hS 2 (by omega)
    have h3 := hS 3 (by omega)
    have h4 := hS 4 (by omega)
    have h5 := hS 5 (by omega)
    have h6 := hS 6 (by omega)
    have h7 := hS 7 (by omega)
    obtain ⟨g2, g3, e8, hg, ⟨_, r2, q2, z2⟩, ⟨_, r3, q3, z3⟩⟩ := hS 8 (by omega)
    obtain ⟨B, e9, hB, bB⟩ := hS 9 (by omega)
    cases r2
    cases r3
    have c0 := bB.cell 0 rfl
    have c1 := bB.cell 1 rfl
    have c2 := bB.cell 2 rfl
    have f0 := bB.frozen 0
    have f1 := bB.frozen 1
    have f2 := bB.frozen 2
    have hne2 : 0 < n → B ≠ g2 := z2.ne_box bB (by decide)
    have hne3 : 0 < n → B ≠ g3 := z3.ne_box bB (by decide)
    have bF := ((bB.set 0 (.slice none 0 0)).set 1 (.slice (some ⟨g2, 0, none⟩) n n)).set 2 (.slice (some ⟨g3, 0, none⟩) n n)
    have hsB : ∀ (i : Nat) (u : Value) (Y : World), Below W.heap.size W Y → Below W.heap.size W (Y.setCell ⟨B, i, none⟩ u) := fun i u Y h => h.setCell hB u
    refine wp_skip (X' := ((X.setCell ⟨B, 0, none⟩ (.slice none 0 0)).setCell ⟨B, 1, none⟩ (.slice (some ⟨g2, 0, none⟩) n n)).setCell ⟨B, 2, none⟩ (.slice (some ⟨g3, 0, none⟩) n n)) (by simp [execOp, go_sem, e9, e8, c0, c1, c2, f0, f1, f2]) ⟨rfl, B, g2, g3, s 3, s 7, by rw [show s 0 = _ from h0, show s 1 = _ from h1, show s 2 = _ from h2, show s 4 = _ from h4, show s 5 = _ from h5, show s 6 = _ from h6, e8, e9]; rfl, hB, bF, ?_, ?_, q2, q3, hg, hsB _ _ _ (hsB _ _ _ (hsB _ _ _ hb))⟩
    · exact ((z2.other hne2 _).other hne2 _).other hne2 _
    · exact ((z3.other hne3 _).other hne3 _).other hne3 _

theorem grown_app {X wr wa w1 : World} {B : Nat} {row : Option Nat} (h : X.grownBy wr (some B)) (hb : Below wr.heap.size wr wa) (hg : wa.grownBy w1 row) (hrow : ∀ k, row = some k → X.heap.size ≤ k) : X.grownBy w1 (some B) :=
  ⟨hg.os.trans (hb.os.trans h.os), hg.tape.trans (hb.tape.trans h.tape), hg.output.trans (hb.output.trans h.output), Nat.le_trans h.size (Nat.le_trans hb.size hg.size), fun k hk hne =>
    (hg.block k (Nat.lt_of_lt_of_le (Nat.lt_of_lt_of_le hk h.size) hb.size) (fun e => by have := hrow k e.symm; omega)).trans ((hb.block k (Nat.lt_of_lt_of_le hk h.size)).trans (h.block k hk hne))⟩
theorem ownsRow_setCell_below {base : Nat} {e : TypeId} {size : Nat} {v : Value} {n : Nat} {xs : List Value} {w : World} (h : w.ownsRow base e size v n xs) {a : Addr} (ha : a.block < base) (u : Value) : (w.setCell a u).ownsRow base e size v n xs := by
  have h1 := h.lt
  exact h.kept (grownBy_setCell w a u) (by
    cases hv : v.ownBlock with
    | none => exact .inl rfl
    | some b => exact .inr (fun e => by have := (h1 b hv).1; cases e; omega))

/-- the levels at the beginning -/
def lvs (ns : List Nd) : List Int := ns.map (·.l)
theorem lvs_len (ns : List Nd) : (lvs ns).length = ns.length := by simp [lvs]
theorem nth_lvs {ns : List Nd} {k : Nat} (h : k < ns.length) : nth (lvs ns) k = (nd ns k).l := by simp [nth, lvs, nd, h]
theorem lvs_take {ns : List Nd} {k : Nat} (h : k < ns.length) : (lvs ns).take (k + 1) = (lvs ns).take k ++ [(nd ns k).l] := by
  rw [List.take_succ_eq_append_getElem (by rw [lvs_len]; exact h), ← nth_lt (by rw [lvs_len]; exact h), nth_lvs h]
theorem lvOk_lvs {ns : List Nd} (hp : PlOk ns) : LvOk ns (lvs ns) := ⟨lvs_len ns, fun k hk => by rw [nth_lvs hk]; exact hp.l k hk⟩
theorem numSl_own {w : World} {base n : Nat} {v : Value} {xs : List Int} (h : w.ownsRow base 3 1 v n (xs.map (Value.int .i64))) (hl : xs.length = n) : NumSl .i64 w v xs ∧ ∀ b, 0 < n → v.ownBlock = some b → base ≤ b := by
  have h1 := h.lt
  rcases h.2 with ⟨rfl, h0⟩ | ⟨g, cap, cur, rfl, h2, h3, _⟩
  · exact ⟨.inl ⟨⟨none, 0, rfl⟩, List.eq_nil_of_length_eq_zero (by omega)⟩, fun b hn => by omega⟩
  · refine ⟨.inr ⟨g, 0, cap, by rw [hl], fun i hi => ?_⟩, fun b _ hb => (h1 b hb).1⟩
    rw [Nat.zero_add, h.cellAt i (by omega)]
    simp [hi, nth_lt hi]

set_option maxRecDepth 100000 in
set_option maxHeartbeats 4000000 in
theorem start_any (sup : Int) (v : Value) (ns : List Nd) (w : World) (hv : NdSl w v ns) (hn : ns.length ≤ 30) :
    Calls Try.prog 47 #[plV sup v] w (StepPost ⟨lvs ns, zeros ns.length, zeros ns.length⟩ ns.length w) := by
  obtain ⟨i0, hi, hz0, hz1, hz2⟩ := info_parts info3
  have hb1 : Below w.heap.size w ((w.alloc (.cells #[.int .i64 sup, v] 24)).alloc (.cells #[.slice none 0 0, .slice none 0 0, .slice none 0 0] 44)) := ((Below.refl _ w).alloc (Nat.le_refl _) _).alloc (by simp) _
  have bP := (BoxC.new w 24 #[.int .i64 sup, v]).alloc (.cells #[.slice none 0 0, .slice none 0 0, .slice none 0 0] 44)
  have bR := BoxC.new (w.alloc (.cells #[.int .i64 sup, v] 24)) 44 #[.slice none 0 0, .slice none 0 0, .slice none 0 0]
  simp only [World.size_alloc] at bR
  have hv1 := hv.mono hb1
  have hv0 := hv
  have hWs : ((w.alloc (.cells #[.int .i64 sup, v] 24)).alloc (.cells #[.slice none 0 0, .slice none 0 0, .slice none 0 0] 44)).heap.size = w.heap.size + 2 := by simp
  obtain ⟨av, cv, rfl⟩ := hv.len
  clear hv
  go_enter Try.func47, Try.ntmps47
  go_wp2
  generalize ((w.alloc (.cells #[.int .i64 sup, .slice av ns.length cv] 24)).alloc (.cells #[.slice none 0 0, .slice none 0 0, .slice none 0 0] 44)) = W at hb1 bP bR hv1 hWs ⊢
  refine Code.wp_mono ?post (start_region sup av ns.length cv w.heap.size (w.heap.size + 1) W bP hn)
  rintro e a X ⟨rfl, Bs, g2, g3, u1, u2, rfl, hBs, bS, r2, r3, n2, n3, h23, hbX⟩
  replace bP := bP.grown hbX
  replace bR := bR.grown hbX
  replace hv1 := hv1.mono hbX
  have hb2 := hb1.trans (hbX.mono hb1.size)
  have hXs := hbX.size
  have hBX := bS.lt
  clear hbX hb1
  have p1 := bP.cell 1 rfl
  go_wp2
  clear p1
  go_loopw [18] (fun i wr => ∃ (k : Nat) (vv : Value), k ≤ ns.length ∧ i = .int .i64 k ∧ X.grownBy wr (some Bs) ∧ BoxC wr Bs 44 #[vv, .slice (some ⟨g2, 0, none⟩) ns.length ns.length, .slice (some ⟨g3, 0, none⟩) ns.length ns.length] ∧
    wr.ownsRow X.heap.size 3 1 vv k (((lvs ns).take k).map (Value.int .i64))) (fun i _ => ns.length - (intOf i).toNat)
  case atStart => exact ⟨0, .slice none 0 0, Nat.zero_le _, rfl, World.grownBy.refl _ _, bS, World.ownsRow_nil _ _ _ _⟩
  case round =>
    obtain ⟨k, vv, hk, rfl, hg, hbS, hown⟩ := hrel
    have hne : ∀ b, vv.ownBlock = some b → X.heap.size ≤ b := fun b hb => (hown.lt b hb).1
    by_cases hlt : k < ns.length
    · have vr := hv1.kept hg (fun b hb hn e => by
        obtain ⟨b', q1, q2⟩ := hv0.own hn
        rw [hb] at q1
        cases q1
        cases e
        omega)
      obtain ⟨b, off, cap', he, hc⟩ := vr.at hlt
      cases he
      obtain ⟨c1, c2, c3, c4⟩ := hc k hlt
      have hki : (k : Int) < (ns.length : Int) := by omega
      have hsn := lvs_take hlt
      clear hc vr
      generalize nd ns k = y at c1 c2 c3 c4 hsn
      obtain ⟨p, m, c, l⟩ := y
      simp only at c1 c2 c3 c4 hsn
      replace hsn := Lib.hid hsn
      have hbA : Below wr.heap.size wr ((wr.alloc (.cells #[.int .i64 p, .int .i64 m, .int .i64 c, .int .i64 l] 42)).alloc (.cells #[.int .i64 l] 3)) := ((Below.refl _ wr).alloc (Nat.le_refl _) _).alloc (by simp) _
      have bSa := hbS.grown hbA
      have hbsl := hbS.lt
      have d0 := hbS.cell 0 rfl
      have hcn : ∀ j u, [Value.int .i64 l][j]? = some u → ((wr.alloc (.cells #[.int .i64 p, .int .i64 m, .int .i64 c, .int .i64 l] 42)).alloc (.cells #[.int .i64 l] 3)).cell? ((⟨wr.heap.size + 1, 0, none⟩ : Addr).add j) = some u := by
        have := cells_new (wr.alloc (.cells #[.int .i64 p, .int .i64 m, .int .i64 c, .int .i64 l] 42)) [.int .i64 l] 3
        simpa using this
      have hXw := hg.size
      go_wp2_with (at_builtin; refine wpList_append_own _ rfl _ _ 39 rfl X.heap.size 3 i0 _ 1 8 Try.underlying39 hi hz0 hz1 hz2 rfl (by decide) _ _ _ rfl ((hown.alloc _).alloc _) ⟨wr.heap.size + 1, 0, none⟩ 1 1 [.int .i64 l] rfl rfl hcn (by simp [Value.oneCell']) (by unfold maxLen; omega) (by omega) (by simp; omega) ?_; intro v' w1 hown' hgrow hnil; obtain ⟨gq, cq, rfl⟩ := ownsRow_succ hown'; have bW := bSa.kept hgrow (fun e => by have := hne Bs e.symm; omega); have d9 := bW.cell 0 rfl; have f9 := bW.frozen 0)
      have bF := bW.set 0 (.slice (some ⟨gq, 0, none⟩) (k + 1) cq)
      have hgF : X.grownBy (w1.setCell ⟨Bs, 0, none⟩ (.slice (some ⟨gq, 0, none⟩) (k + 1) cq)) (some Bs) := grownBy_trans (grown_app hg hbA hgrow hne) (grownBy_setCell w1 ⟨Bs, 0, none⟩ _)
      have hoF := ownsRow_setCell_below hown' (a := ⟨Bs, 0, none⟩) (by show Bs < X.heap.size; omega) (.slice (some ⟨gq, 0, none⟩) (k + 1) cq)
      go_roundw
      case rel => exact ⟨k + 1, _, by omega, by go_num, hgF, bF, by rw [hsn.out, List.map_append]; exact hoF⟩
      case measure => simp [intOf]; omega
    · obtain rfl : k = ns.length := by omega
      have hnum := numSl_own hown (by rw [List.length_take, lvs_len]; omega)
      rw [List.take_of_length_le (by rw [lvs_len]; exact Nat.le_refl _)] at hnum
      have bRr := bR.kept hg (by simp; omega)
      have hRne : w.heap.size + 1 ≠ Bs := by omega
      have q2 := r2.kept hg (fun hn e => (r2.ne_box bS (by decide) hn) (by cases e; rfl))
      have q3 := r3.kept hg (fun hn e => (r3.ne_box bS (by decide) hn) (by cases e; rfl))
      have d0 := hbS.cell 0 rfl
      have d1 := hbS.cell 1 rfl
      have d2 := hbS.cell 2 rfl
      have z0 := bRr.cell 0 rfl
      have z1 := bRr.cell 1 rfl
      have z2 := bRr.cell 2 rfl
      have y0 := bRr.frozen 0
      have y1 := bRr.frozen 1
      have y2 := bRr.frozen 2
      obtain ⟨aq, cq, hvv⟩ := hnum.1.len
      rw [lvs_len] at hvv
      subst hvv
      have hB2 : Below w.heap.size w wr := hb2.grown hg hb2.size (fun k e => by cases e; omega)
      go_wp2
      have bF : BoxC (((wr.setCell ⟨w.heap.size + 1, 0, none⟩ (.slice aq ns.length cq)).setCell ⟨w.heap.size + 1, 1, none⟩ (.slice (some ⟨g2, 0, none⟩) ns.length ns.length)).setCell ⟨w.heap.size + 1, 2, none⟩ (.slice (some ⟨g3, 0, none⟩) ns.length ns.length)) (w.heap.size + 1) 44
        #[.slice aq ns.length cq, .slice (some ⟨g2, 0, none⟩) ns.length ns.length, .slice (some ⟨g3, 0, none⟩) ns.length ns.length] := ((bRr.set 0 _).set 1 _).set 2 _
      have hBF := ((hB2.setCell (p := ⟨w.heap.size + 1, 0, none⟩) (by show w.heap.size ≤ w.heap.size + 1; omega) (.slice aq ns.length cq)).setCell (p := ⟨w.heap.size + 1, 1, none⟩) (by show w.heap.size ≤ w.heap.size + 1; omega) (.slice (some ⟨g2, 0, none⟩) ns.length ns.length)).setCell (p := ⟨w.heap.size + 1, 2, none⟩) (by show w.heap.size ≤ w.heap.size + 1; omega) (.slice (some ⟨g3, 0, none⟩) ns.length ns.length)
      have hgF := grownBy_trans (grownBy_trans (grownBy_setCell wr ⟨w.heap.size + 1, 0, none⟩ (.slice aq ns.length cq)) (grownBy_setCell _ ⟨w.heap.size + 1, 1, none⟩ (.slice (some ⟨g2, 0, none⟩) ns.length ns.length))) (grownBy_setCell _ ⟨w.heap.size + 1, 2, none⟩ (.slice (some ⟨g3, 0, none⟩) ns.length ns.length))
      have nq2 := fun hn => q2.ne_box bRr (by decide) hn
      have nq3 := fun hn => q3.ne_box bRr (by decide) hn
      generalize (((wr.setCell ⟨w.heap.size + 1, 0, none⟩ (.slice aq ns.length cq)).setCell ⟨w.heap.size + 1, 1, none⟩ (.slice (some ⟨g2, 0, none⟩) ns.length ns.length)).setCell ⟨w.heap.size + 1, 2, none⟩ (.slice (some ⟨g3, 0, none⟩) ns.length ns.length)) = Z at bF hBF hgF ⊢
      have e0 := bF.cell 0 rfl
      have e1 := bF.cell 1 rfl
      have e2 := bF.cell 2 rfl
      have k1 := hnum.1.kept hgF (fun b hb hn e => by
        have h2 := hnum.2 b (by rw [lvs_len] at hn; exact hn) hb
        have h3 : b = w.heap.size + 1 := by cases e; rfl
        omega)
      have k2 := (q2.kept hgF (fun hn e => nq2 hn (by cases e; rfl))).num ⟨_, _, rfl⟩
      have k3 := (q3.kept hgF (fun hn e => nq3 hn (by cases e; rfl))).num ⟨_, _, rfl⟩
      have l1 : ∀ b, 0 < ns.length → (Value.slice aq ns.length cq).ownBlock = some b → w.heap.size ≤ b := fun b hn hb => by have := hnum.2 b hn hb; omega
      have l2 : 0 < ns.length → w.heap.size ≤ g2 := fun hn => by have := (q2.lt hn).1; omega
      have l3 : 0 < ns.length → w.heap.size ≤ g3 := fun hn => by have := (q3.lt hn).1; omega
      refine bodyPost_ret (v := .agg #[.slice aq ns.length cq, .slice (some ⟨g2, 0, none⟩) ns.length ns.length, .slice (some ⟨g3, 0, none⟩) ns.length ns.length]) (by simp [results, Try.results47, go_sem, e0, e1, e2]) rfl
        ⟨_, _, _, rfl, k1, k2, k3, l1, fun b hn hb => by cases hb; exact l2 hn, fun b hn hb => by cases hb; exact l3 hn, hBF⟩
end Go.Proofs.Ytfefocgekmeahaa
