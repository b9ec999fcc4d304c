/- What MatchingMoves keeps in memory; the moved costs are right. Conditions: none. -/
import Derived.Test.YtoendfpfnfeccaaW21
import Derived.Test.YtoendfpfnfeccaaL3
import Derived.Test.YtoendfpfnfeccaaP11
namespace Go.Proofs.Ytoendfpfnfeccaa
open Go.RowKit Go.Shelf

/-- rows of different element types lie apart -/
theorem own_apart {W : World} {B B' e e' : Nat} {u v : Value} {n k : Nat} {xs ys : List Value} (h : W.ownsRow B e 1 u n xs) (h' : W.ownsRow B' e' 1 v k ys) (he : e ≠ e') : ∀ b, u.ownBlock = some b → v.ownBlock ≠ some b := by
  intro b e1 e2
  obtain ⟨_, ⟨rfl, _⟩ | ⟨g, cap, cur, rfl, _, h4, _⟩⟩ := h
  · cases e1
  · obtain ⟨_, ⟨rfl, _⟩ | ⟨g', cap', cur', rfl, _, h5, _⟩⟩ := h'
    · cases e2
    · have q1 : g = b := Option.some.inj e1
      have q2 : g' = b := Option.some.inj e2
      subst q1 q2
      rw [h4] at h5
      cases h5
      exact he rfl
theorem own_low {W : World} {B B' : Nat} {e : TypeId} {v : Value} {n : Nat} {xs : List Value} (h : W.ownsRow B e 1 v n xs) (hb : B' ≤ B) : W.ownsRow B' e 1 v n xs := by
  obtain ⟨h1, h2 | ⟨g, cap, cur, rfl, h3, h4⟩⟩ := h
  · exact ⟨h1, .inl h2⟩
  · exact ⟨h1, .inr ⟨g, cap, cur, rfl, by omega, h4⟩⟩
theorem OwnI.set {B g n cap : Nat} {xs : List Int} {W : World} (h : OwnI B xs (.slice (some ⟨g, 0, none⟩) n cap) W) (hn : xs.length = n) (i : Nat) (z : Int) : OwnI B (xs.set i z) (.slice (some ⟨g, 0, none⟩) n cap) (W.setCell ⟨g, i, none⟩ (.int .i64 z)) := by
  subst hn
  have h' : W.ownsRow B 3 1 (.slice (some ⟨g, 0, none⟩) xs.length cap) xs.length (xs.map (Value.int .i64)) := h
  have := (h'.stored i (.int .i64 z)).1
  rw [show (xs.map (Value.int .i64)).set i (.int .i64 z) = (xs.set i z).map (Value.int .i64) by simp [List.map_set]] at this
  simpa [OwnI] using this
theorem OwnI.cell {B g n cap : Nat} {xs : List Int} {W : World} (h : OwnI B xs (.slice (some ⟨g, 0, none⟩) n cap) W) (hn : xs.length = n) {i : Nat} (hi : i < xs.length) : W.cell? ⟨g, i, none⟩ = some (.int .i64 (nth xs i)) ∧ W.frozen? ⟨g, i, none⟩ = false := by
  subst hn
  have h' : W.ownsRow B 3 1 (.slice (some ⟨g, 0, none⟩) xs.length cap) xs.length (xs.map (Value.int .i64)) := h
  refine ⟨?_, h'.frozenAt i⟩
  rw [h'.cellAt i (by omega)]
  simp [hi, nth_lt hi]
/-- the rows below q stand, in blocks below lim -/
structure MvB (base lim : Nat) (css : List (List Int)) (k : Nat) (d : Int) (q : Nat) (v : Value) (us : List Value) (W : World) : Prop where
  o : W.ownsRow base 24 1 v q us
  l : us.length = q
  vl : ∀ b, v.ownBlock = some b → b < lim
  r : ∀ j, j < q → ∃ u, us[j]? = some u ∧ OwnI base (nths (mvd css k d) j) u W ∧ ∀ b, u.ownBlock = some b → b < lim
section
variable {base lim : Nat} {css : List (List Int)} {k : Nat} {d : Int} {q : Nat} {v : Value} {us : List Value} {W W' : World}
theorem MvB.start : MvB base lim css k d 0 (.slice none 0 0) [] W := ⟨World.ownsRow_nil _ _ _ _, rfl, fun b h => (by cases h), fun j h => by omega⟩
theorem MvB.below (h : MvB base lim css k d q v us W) (hb : Below W.heap.size W W') : MvB base lim css k d q v us W' := ⟨ownsRow_grown h.o hb, h.l, h.vl, fun j hj => by
  obtain ⟨u, h1, h2, h3⟩ := h.r j hj
  exact ⟨u, h1, h2.below hb, h3⟩⟩
theorem MvB.more (h : MvB base lim css k d q v us W) {lim' : Nat} (hl : lim ≤ lim') : MvB base lim' css k d q v us W := ⟨h.o, h.l, fun b e => Nat.lt_of_lt_of_le (h.vl b e) hl, fun j hj => by
  obtain ⟨u, h1, h2, h3⟩ := h.r j hj
  exact ⟨u, h1, h2, fun b e => Nat.lt_of_lt_of_le (h3 b e) hl⟩⟩
/-- all blocks lie below the world's size -/
theorem MvB.grow (h : MvB base lim css k d q v us W) : MvB base W.heap.size css k d q v us W := ⟨h.o, h.l, fun b e => (h.o.lt b e).2, fun j hj => by
  obtain ⟨u, h1, h2, _⟩ := h.r j hj
  exact ⟨u, h1, h2, fun b e => (World.ownsRow.lt h2 b e).2⟩⟩
theorem MvB.setCell (h : MvB base lim css k d q v us W) {p : Addr} (hp : lim ≤ p.block) (z : Value) : MvB base lim css k d q v us (W.setCell p z) := by
  have hg := grownBy_setCell W p z
  refine ⟨ownsRow_kept h.o hg (fun b e h1 => ?_), h.l, h.vl, fun j hj => ?_⟩
  · have := h.vl b e; have := Option.some.inj h1; omega
  · obtain ⟨u, h1, h2, h3⟩ := h.r j hj
    exact ⟨u, h1, ownsRow_kept h2 hg (fun b e h4 => by have := h3 b e; have := Option.some.inj h4; omega), h3⟩
/-- one row more -/
theorem MvB.snoc (h : MvB base lim css k d q v us W) {u v' : Value} (hu : OwnI base (nths (mvd css k d) q) u W) (hg : W.grownBy W' v.ownBlock) (ho : W'.ownsRow base 24 1 v' (q + 1) (us ++ [u])) : MvB base W'.heap.size css k d (q + 1) v' (us ++ [u]) W' := by
  refine ⟨ho, by simp [h.l], fun b e => (ho.lt b e).2, fun j hj => ?_⟩
  have key : ∀ {u : Value} {xs : List Int}, OwnI base xs u W → OwnI base xs u W' := fun hx => ownsRow_kept hx hg (fun b e => own_apart hx h.o (by decide) b e)
  rcases Nat.lt_or_ge j q with hlt | hge
  · obtain ⟨u', h1, h2, _⟩ := h.r j hlt
    exact ⟨u', by rw [List.getElem?_append_left (by rw [h.l]; exact hlt)]; exact h1, key h2, fun b e => (World.ownsRow.lt (key h2) b e).2⟩
  · obtain rfl : j = q := by omega
    exact ⟨u, by rw [List.getElem?_append_right (by rw [h.l]; exact Nat.le_refl _), h.l]; simp, key hu, fun b e => (World.ownsRow.lt (key hu) b e).2⟩
theorem MvB.sl (h : MvB base lim css k d css.length v us W) : SlSl W v (mvd css k d) := by
  rcases FlatSl.of_owns h.o with ⟨rfl, h0, _⟩ | ⟨b, cap, rfl, hl, hc⟩
  · have : mvd css k d = [] := List.eq_nil_of_length_eq_zero (by rw [mvd_len]; exact h0)
    rw [this]
    exact .inl ⟨⟨_, _, rfl⟩, rfl⟩
  · refine .inr ⟨b, 0, cap, by rw [mvd_len], hl, fun i hi => ?_⟩
    rw [mvd_len] at hi
    obtain ⟨u, g1, g2, _⟩ := h.r i hi
    exact ⟨u, by rw [Nat.zero_add]; exact hc i u g1, ownsRow_num g2⟩
end
theorem mvd_in {css : List (List Int)} {k : Nat} {d : Int} (hv : ∀ r j, -1000 ≤ cF css r j ∧ cF css r j ≤ 1000) (hd : -1000 ≤ d ∧ d ≤ 1000) (r j : Nat) : -2000 ≤ cF (mvd css k d) r j ∧ cF (mvd css k d) r j ≤ 2000 := by
  rcases Nat.lt_or_ge r css.length with h | h
  · rcases Nat.lt_or_ge j (nths css r).length with h2 | h2
    · rw [mvd_val h h2]
      have := hv r j
      split <;> omega
    · have : cF (mvd css k d) r j = 0 := by
        unfold cF
        exact nth_over (by rw [mvd_rlen h]; exact h2)
      omega
  · have : cF (mvd css k d) r j = 0 := by
      unfold cF
      have : nths (mvd css k d) r = [] := by
        have := mvd_len (css := css) (k := k) (d := d)
        simp [nths, show (mvd css k d).length ≤ r by omega]
      rw [this]; rfl
    omega
theorem mvd_ck {css : List (List Int)} {k : Nat} {d : Int} (hok : CsOk css) (hnm : css.length ≤ colN css) (hv : ∀ r j, -1000 ≤ cF css r j ∧ cF css r j ≤ 1000) (hd : -1000 ≤ d ∧ d ≤ 1000) : ckF (mvd css k d) true = 0 := by
  have h1 := hok.n
  have h2 := hok.m
  unfold ckF
  rw [mvd_len, mvd_col, szS_zero (fun i hi => by rw [mvd_len] at hi; rw [mvd_rlen hi, mvd_col]; exact hok.row i hi) _ 0 rfl, rgS_zero (fun i j => by
    have : -2000 ≤ nth (nths (mvd css k d) i) j ∧ nth (nths (mvd css k d) i) j ≤ 2000 := mvd_in hv hd i j
    unfold badC
    rw [betw_true (by omega)]; rfl) _ 0 rfl, if_neg (by omega), if_neg (by simp), if_neg (by omega)]
theorem mvd_fit {css : List (List Int)} {k : Nat} {d : Int} (h : CsFit css) : CsFit (mvd css k d) := ⟨by rw [mvd_len]; exact h.l, fun i => by
  rcases Nat.lt_or_ge i css.length with h1 | h1
  · rw [mvd_rlen h1]; exact h.r i
  · have : nths (mvd css k d) i = [] := by
      have := mvd_len (css := css) (k := k) (d := d)
      simp [nths, show (mvd css k d).length ≤ i by omega]
    rw [this]; simp⟩
/-- the row q, moved below column p -/
def MvRow (css : List (List Int)) (k : Nat) (d : Int) (q p : Nat) (ls : List Int) : Prop := ls.length = (nths css q).length ∧ ∀ j, j < ls.length → nth ls j = cF css q j + if j < p ∧ q = k then d else 0
theorem MvRow.start {css : List (List Int)} {k q : Nat} {d : Int} : MvRow css k d q 0 (nths css q) := ⟨rfl, fun j _ => by simp [cF]⟩
theorem MvRow.at {css : List (List Int)} {k q p : Nat} {d : Int} {ls : List Int} (h : MvRow css k d q p ls) (hp : p < ls.length) : nth ls p = cF css q p := by rw [h.2 p hp]; simp
theorem MvRow.put {css : List (List Int)} {k q p : Nat} {d : Int} {ls : List Int} (h : MvRow css k d q p ls) (hp : p < ls.length) (hq : q = k) : MvRow css k d q (p + 1) (ls.set p (cF css q p + d)) := ⟨by simp [h.1], fun j hj => by
  rw [nth_set hp]
  simp only [List.length_set] at hj
  by_cases e : j = p
  · subst e; simp [hq]
  · rw [if_neg e, h.2 j hj]
    by_cases hlt : j < p
    · simp [hlt, show j < p + 1 by omega]
    · simp [hlt, show ¬ j < p + 1 by omega]⟩
theorem MvRow.skip {css : List (List Int)} {k q p : Nat} {d : Int} {ls : List Int} (h : MvRow css k d q p ls) (hq : q ≠ k) : MvRow css k d q (p + 1) ls := ⟨h.1, fun j hj => by rw [h.2 j hj]; simp [hq]⟩
theorem MvRow.done {css : List (List Int)} {k q : Nat} {d : Int} {ls : List Int} (h : MvRow css k d q ls.length ls) (hq : q < css.length) : ls = nths (mvd css k d) q := by
  have hl : (nths (mvd css k d) q).length = ls.length := by rw [mvd_rlen hq, h.1]
  refine ext_nth hl.symm (fun j hj => ?_)
  rw [h.2 j hj]
  have := mvd_val (k := k) (d := d) hq (j := j) (by rw [← h.1]; exact hj)
  have e : nth (nths (mvd css k d) q) j = cF (mvd css k d) q j := rfl
  rw [e, this]
  simp [hj]
end Go.Proofs.Ytoendfpfnfeccaa
