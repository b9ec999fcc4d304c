/- The contract of slices.Clone; what Partial keeps in memory; Best once more, in lists. Conditions: at most 1000 numbers. -/
import Derived.Test.YtoendfpfnfeccaaW11
import Derived.Test.YtoendfpfnfeccaaP8
namespace Go.Proofs.Ytoendfpfnfeccaa
open Go.RowKit Go.Shelf

/-- behind a result without an error -/
def ResPost (css : List (List Int)) (skip : Option Int) (w : World) (e : Ending) (X : World) : Prop :=
  ∃ vc vr vl tot cs rows pots, e = .returned (.tuple #[resB vc tot vr vl, .int .i64 0]) ∧ NumSl .i64 X vc cs ∧ NumSl .i64 X vr rows ∧ NumSl .i64 X vl pots ∧ Below w.heap.size w X ∧ Hid (ResOk css skip cs rows pots tot)
theorem Best_res (v : Value) (css : List (List Int)) (w : World) (hv : SlSl w v css) (hf : CsFit css) (hd : ckF css true = 0) : Calls Try.prog 16 #[v] w (ResPost css none w) := by
  refine (Best_ok v css w hv hf hd).mono ?_
  rintro e X ⟨gc, gu, gv, tot, cs, us, vs, rfl, hM, hS⟩
  exact ⟨rowS gc css.length, cut1 gu css.length, cut1 gv (colN css), tot, cs, us.drop 1, vs.drop 1, rfl, hM.cs_sl, hM.us_sl, hM.vs_sl, hM.bl, Lib.hid (resOk_of hM.u.1 hM.v.1 hM.c.1 hS.out.ok hS.out.nn)⟩

/-- behind a copy -/
def ClonePost (xs : List Int) (w : World) (e : Ending) (w' : World) : Prop := ∃ v, e = .returned v ∧ w'.ownsRow w.heap.size 3 1 v xs.length (xs.map (Value.int .i64)) ∧ Below w.heap.size w w'
set_option maxHeartbeats 1000000 in
theorem clone_any (u : Value) (xs : List Int) (w : World) (hu : NumSl .i64 w u xs) (hl : xs.length ≤ 1000) : Calls Try.prog 37 #[u] w (ClonePost xs w) := by
  have hA := (Below.refl w.heap.size w).alloc (Nat.le_refl _) (.cells #[] 3)
  obtain ⟨i0, hi, hz0, hz1, hz2⟩ := info_parts info3
  have hu0 := Lib.hid hu
  obtain ⟨a, c, rfl⟩ := hu.len
  cases a with
  | none =>
    have hx : xs = [] := by
      rcases hu with ⟨_, h⟩ | ⟨b, off, cap, he, _⟩
      · exact h
      · cases he
    subst hx
    have hq : ∀ w, (binOp .eql 24 (.slice none 0 c) (.slice none 0 0)).run Try.prog w = .ok (.bool true) w := fun w => Lib.run_eql_slice_nil w 24 3 _ _ _ 0 0 Try.underlying24
    clear hu hu0 hl hA
    simp only [List.length_nil]
    go_enter Try.func37, Try.ntmps37
    go_wp2
    go_ret
    exact ⟨_, rfl, World.ownsRow_nil _ _ _ _, Below.refl _ _⟩
  | some ad =>
    have hq : ∀ w n, (binOp .eql 24 (.slice (some ad) n c) (.slice none 0 0)).run Try.prog w = .ok (.bool false) w := fun w n => Lib.run_eql_slice_nil w 24 3 _ _ _ 0 0 Try.underlying24
    generalize hn : xs.length = n at hl
    replace hn := Lib.hid hn
    clear hu
    rw [hn.out] at hu0
    go_enter Try.func37, Try.ntmps37
    go_wp2_with (at_builtin; refine wpList_app _ rfl _ _ 24 rfl w.heap.size i0 _ Try.underlying24 hi hz0 hz1 hz2 rfl _ 0 [] rfl (own_empty _ _) _ xs rfl (hu0.out.mono hA) (by rw [hn.out]; omega) (by simp) ?_; intro v2 w2 hown2 hgr)
    have hB2 := hA.grown hgr (by simp) (fun k e => by cases e; exact Nat.le_refl _)
    go_wp2
    go_ret
    exact ⟨_, rfl, by simpa using hown2, hB2⟩

theorem info24 : (Try.prog.info? 24).map (fun i => (i.zero, i.size, i.bytes)) = some (some (.slice none 0 0), 1, 24) := by kernel_rfl
theorem run_make23 (n : Nat) (hn : n ≤ 1000) (X : World) : (Instr.makeSlice 23 (.int .i64 (n : Int)) (.int .i64 (n : Int))).run Try.prog X = .ok (rowS X.heap.size n) (X.alloc (.cells (madeCells #[.slice none 0 0] n) 24)) := by
  obtain ⟨i0, hi, hz0, hz1, hz2⟩ := info_parts info24
  have := run_make (P := Try.prog) X 23 24 i0 (.slice none 0 0) Try.underlying23 hi hz0 .i64 .i64 n n (by omega) (by omega) (by rw [hz2]; omega) (by omega)
  rw [hz1] at this
  simpa [Value.cells] using this
def wideF (css : List (List Int)) (skip : Int) (k : Nat) : List Int := nths css k ++ List.replicate (css.length + 1) skip
/-- the rows below k stand -/
structure WideOk (css : List (List Int)) (skip : Int) (gw n k : Nat) (us : Array Value) (W : World) : Prop where
  sz : us.size = n
  b : BoxC W gw 24 us
  r : ∀ j, j < k → ∃ u, us[j]? = some u ∧ NumSl .i64 W u (wideF css skip j) ∧ ∀ b, u.ownBlock = some b → gw < b
  s : ∀ j, j < n → ∃ a l c, us[j]? = some (.slice a l c)
section
variable {css : List (List Int)} {skip : Int} {gw n k : Nat} {us : Array Value} {W W' : World}
theorem WideOk.new {X : World} : WideOk css skip X.heap.size n 0 (madeCells #[.slice none 0 0] n) (X.alloc (.cells (madeCells #[.slice none 0 0] n) 24)) := by
  refine ⟨by simp [size_madeCells], BoxC.new _ _ _, fun j h => by omega, fun j hj => ⟨none, 0, 0, ?_⟩⟩
  rw [← Array.getElem?_toList, toList_madeCells_one]
  simp [hj]
theorem WideOk.kept {row : Option Nat} (h : WideOk css skip gw n k us W) (hg : W.grownBy W' row) (h1 : some gw ≠ row) (h2 : ∀ j u b, j < k → us[j]? = some u → u.ownBlock = some b → row ≠ some b) : WideOk css skip gw n k us W' :=
  ⟨h.sz, h.b.kept hg h1, fun j hj => by
    obtain ⟨u, a, b, c⟩ := h.r j hj
    exact ⟨u, a, b.kept hg (fun b' hb _ => h2 j u b' hj a hb), c⟩, h.s⟩
theorem WideOk.below (h : WideOk css skip gw n k us W) (hb : Below W.heap.size W W') : WideOk css skip gw n k us W' := h.kept (below_grown hb) (by simp) (fun _ _ _ _ _ _ => by simp)
theorem WideOk.put (h : WideOk css skip gw n k us W) (hk : k < n) {a : Option Addr} {l c : Nat} (hu : NumSl .i64 W (.slice a l c) (wideF css skip k)) (hb : ∀ b, (Value.slice a l c).ownBlock = some b → gw < b) :
    WideOk css skip gw n (k + 1) (us.setIfInBounds k (.slice a l c)) (W.setCell ⟨gw, k, none⟩ (.slice a l c)) := by
  have hg := grownBy_setCell W ⟨gw, k, none⟩ (.slice a l c)
  have hs := h.sz
  refine ⟨by simp [hs], h.b.set k _, fun j hj => ?_, fun j hj => ?_⟩
  · by_cases e : j = k
    · subst e
      exact ⟨_, by simp [hs, hk], hu.kept hg (fun b' h1 _ h2 => Nat.ne_of_lt (hb _ h1) (Option.some.inj h2)), hb⟩
    · obtain ⟨u, q1, q2, q3⟩ := h.r j (by omega)
      exact ⟨u, by rw [Array.getElem?_setIfInBounds_ne (Ne.symm e)]; exact q1, q2.kept hg (fun b' h1 _ h2 => Nat.ne_of_lt (q3 _ h1) (Option.some.inj h2)), q3⟩
  · by_cases e : j = k
    · subst e
      exact ⟨a, l, c, by simp [hs, hk]⟩
    · rw [Array.getElem?_setIfInBounds_ne (Ne.symm e)]
      exact h.s j hj
theorem WideOk.sl (h : WideOk css skip gw n n us W) (hn : css.length = n) : SlSl W (rowS gw n) (wides css skip) := by
  rcases Nat.eq_zero_or_pos n with h0 | h0
  · subst h0
    have : css = [] := List.eq_nil_of_length_eq_zero hn
    subst this
    exact .inl ⟨⟨_, _, rfl⟩, rfl⟩
  · refine .inr ⟨gw, 0, n, by rw [wides_len, hn], h.b.lt, fun i hi => ?_⟩
    rw [wides_len, hn] at hi
    obtain ⟨u, q1, q2, _⟩ := h.r i hi
    refine ⟨u, by rw [Nat.zero_add]; exact h.b.cell i q1, ?_⟩
    rw [wides_row (by omega)]
    exact q2
end
theorem SolMem.setC {w : World} {n m gc gu gv : Nat} {cs us vs : List Int} {X : World} (h : SolMem w n m gc gu gv cs us vs X) (hn : 0 < n) (i : Nat) (z : Int) : SolMem w n m gc gu gv (cs.set i z) us vs (X.setCell ⟨gc, i, none⟩ (.int .i64 z)) :=
  ⟨h.c.set i z, h.u.other (fun _ => h.cu) _, h.v.other (fun _ => h.cv) _, h.cu, h.cv, h.uv, h.bl.setCell (h.c.lt hn).1 _⟩
end Go.Proofs.Ytoendfpfnfeccaa
