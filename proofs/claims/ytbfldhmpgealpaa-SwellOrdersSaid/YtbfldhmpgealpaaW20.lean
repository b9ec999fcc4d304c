/- The contract of the stable sort of indices by a key (at most 20). Conditions: the key's numbers are small. -/
import Derived.Test.YtbfldhmpgealpaaW18
namespace Go.Proofs.Ytbfldhmpgealpaa
open Go.RowKit Go.Shelf

/-- before, in the order of the key, and at the same key by the number itself -/
def ltK (f : Int → Int) (a b : Int) : Prop := f a < f b ∨ (f a = f b ∧ a < b)
theorem ltK.trans {f : Int → Int} {a b c : Int} (h : ltK f a b) (g : ltK f b c) : ltK f a c := by
  unfold ltK at *
  omega

structure OutSt (f : Int → Int) (ys : List Int) (n i : Nat) : Prop where
  len : ys.length = n
  rest : ∀ q, i ≤ q → q < n → nth ys q = q
  low : ∀ p, p < i → p < n → 0 ≤ nth ys p ∧ nth ys p < i
  srt : ∀ p q, p < q → q < i → q < n → ltK f (nth ys p) (nth ys q)

structure InSt (f : Int → Int) (ys : List Int) (n i j : Nat) : Prop where
  len : ys.length = n
  here : nth ys j = i
  rest : ∀ q, i < q → q < n → nth ys q = q
  low : ∀ p, p ≤ i → p ≠ j → 0 ≤ nth ys p ∧ nth ys p < i
  srt : ∀ p q, p < q → q ≤ i → p ≠ j → q ≠ j → ltK f (nth ys p) (nth ys q)
  up : ∀ q, j < q → q ≤ i → ltK f (nth ys j) (nth ys q)

theorem OutSt.inner {f : Int → Int} {ys : List Int} {n i : Nat} (h : OutSt f ys n i) (hi : i < n) : InSt f ys n i i where
  len := h.len
  here := h.rest i (Nat.le_refl _) hi
  rest q h1 h2 := h.rest q (by omega) h2
  low p h1 h2 := h.low p (by omega) (by omega)
  srt p q h1 h2 h3 h4 := h.srt p q h1 (by omega) (by omega)
  up q h1 h2 := by omega

theorem InSt.stop {f : Int → Int} {ys : List Int} {n i j : Nat} (h : InSt f ys n i j) (hj : j ≤ i) (hs : j = 0 ∨ (1 ≤ j ∧ f (nth ys (j - 1)) ≤ f (nth ys j))) : OutSt f ys n (i + 1) where
  len := h.len
  rest q h1 h2 := h.rest q (by omega) h2
  low p h1 h2 := by
    by_cases hp : p = j
    · subst hp
      rw [h.here]
      omega
    · have := h.low p (by omega) hp
      omega
  srt p q h1 h2 h3 := by
    by_cases hp : p = j
    · subst hp
      exact h.up q h1 (by omega)
    · by_cases hq : q = j
      · subst hq
        have hq1 : 1 ≤ q := by omega
        have hq2 : f (nth ys (q - 1)) ≤ f (nth ys q) := by
          rcases hs with h0 | h0
          · omega
          · exact h0.2
        have hl := h.low (q - 1) (by omega) (by omega)
        have hb : ltK f (nth ys (q - 1)) (nth ys q) := by
          rw [h.here] at hq2 ⊢
          unfold ltK
          omega
        by_cases he : p = q - 1
        · subst he; exact hb
        · exact (h.srt p (q - 1) (by omega) (by omega) hp (by omega)).trans hb
      · exact h.srt p q h1 (by omega) hp hq

theorem InSt.step {f : Int → Int} {ys : List Int} {n i j : Nat} (h : InSt f ys n i j) (hj : j ≤ i) (hi : i < n) (h1 : 1 ≤ j) (hf : f (nth ys j) < f (nth ys (j - 1))) :
    InSt f ((ys.set j (nth ys (j - 1))).set (j - 1) (nth ys j)) n i (j - 1) := by
  have hjl : j < ys.length := by rw [h.len]; omega
  have hjl' : j - 1 < (ys.set j (nth ys (j - 1))).length := by simp; omega
  have e : ∀ q, nth ((ys.set j (nth ys (j - 1))).set (j - 1) (nth ys j)) q = if q = j - 1 then nth ys j else if q = j then nth ys (j - 1) else nth ys q := by
    intro q
    rw [nth_set hjl', nth_set hjl]
  have hl1 := h.low (j - 1) (by omega) (by omega)
  refine ⟨by simp [h.len], ?_, ?_, ?_, ?_, ?_⟩
  · rw [e, if_pos rfl, h.here]
  · intro q h2 h3
    rw [e, if_neg (by omega), if_neg (by omega)]
    exact h.rest q h2 h3
  · intro p h2 h3
    rw [e, if_neg h3]
    split
    · exact hl1
    · exact h.low p h2 (by assumption)
  · intro p q h2 h3 h4 h5
    rw [e, e, if_neg h4, if_neg h5]
    by_cases hp : p = j
    · rw [if_pos hp, if_neg (by omega)]
      exact h.srt (j - 1) q (by omega) h3 (by omega) (by omega)
    · rw [if_neg hp]
      by_cases hq : q = j
      · rw [if_pos hq]
        exact h.srt p (j - 1) (by omega) (by omega) hp (by omega)
      · rw [if_neg hq]
        exact h.srt p q h2 h3 hp hq
  · intro q h2 h3
    rw [e, e, if_pos rfl, if_neg (by omega)]
    by_cases hq : q = j
    · rw [if_pos hq]
      exact .inl hf
    · rw [if_neg hq]
      exact h.up q (by omega) h3

set_option maxHeartbeats 1000000 in
/-- the comparison of two indices -/
theorem cmp_any (x y : Nat) (Bl : Nat) (lv : Value) (ks : List Int) (w : World) (hb : BoxC w Bl 40 #[lv]) (hv : NumSl .i64 w lv ks) (hx : x < ks.length) (hy : y < ks.length)
    (hk : ∀ i, 0 ≤ nth ks i ∧ nth ks i ≤ 1000000000000000) :
    Calls Try.prog 46 #[.int .i64 x, .int .i64 y, .pointer (some ⟨Bl, 0, none⟩)] w fun e w' => e = .returned (.int .i64 (nth ks x - nth ks y)) ∧ ∃ m, w' = w.drewN m := by
  obtain ⟨b, off, cap, rfl, hc⟩ := hv.at hx
  have c0 := hb.cell 0 rfl
  have cx := hc x hx
  have cy := hc y hy
  have k1 := hk x
  have k2 := hk y
  have hx2 : (x : Int) < (ks.length : Int) := by omega
  have hy2 : (y : Int) < (ks.length : Int) := by omega
  have e1 : IntKind.i64.wrap (nth ks x - nth ks y) = nth ks x - nth ks y := IntWalk.i64_in _ (by omega)
  generalize nth ks x = zx at cx e1 k1 ⊢
  generalize nth ks y = zy at cy e1 k2 ⊢
  clear hc hk hv hb
  go_enter Try.func46, Try.ntmps46
  go_wp2_with fail
  go_quiet (fail)
  go_wp2
  go_ret
  exact ⟨rfl, _, rfl⟩
end Go.Proofs.Ytbfldhmpgealpaa
