/- A region that draws its order of evaluation, whose last operation waits for all others: it is enough to show each operation once, in whatever world; what an operation may do to the world is a relation. Lemmas on code; no program. Conditions: none. -/
import Derived.Test.YtoendfpfnfeccaaMakers
namespace Go.Proofs.Ytoendfpfnfeccaa
open Go Go.RowKit

section
variable {P : Program} {ops : Array Oper} {Q : Exit → Act → World → Prop}
theorem wpAny_steps {n : Nat} {F : (Nat → Value) → Array Value} {ds : List Deferred} {Sp : Nat → Value → World → Prop} {Base : World → Prop} {R : World → World → Prop} (hB : makersB ops n = true)
    (step : ∀ i o, i < n → ops[i]? = some o → ∀ (s : Nat → Value) (X : World), Base X → (∀ e ∈ o.after, Sp e.on (s e.on) X) →
      Oper.wp P o { tmps := F s, defers := ds } X (fun a' X' => ∃ v, a' = { tmps := F (upd s i v), defers := ds } ∧ Base X' ∧ Sp i v X' ∧ R X X') Q)
    (stable : ∀ j u X X', Base X → Sp j u X → R X X' → Sp j u X')
    (tail : ∀ o, ops[n]? = some o → ∀ (s : Nat → Value) (X : World), Base X → (∀ i, i < n → Sp i (s i) X) → Oper.wp P o { tmps := F s, defers := ds } X (Q .normal) Q) :
    ∀ (fuel : Nat) (listed : Array Bool) (s : Nat → Value) (X : World), listed.size = ops.size → listed.toList.count false = fuel → listed.getD n true = false → Base X → (∀ i, listed.getD i false = true → Sp i (s i) X) →
      wpAny P .any ops Q fuel listed { tmps := F s, defers := ds } X
  | 0, listed, s, X, hs, hc, hn, _, _ => by
    have h1 := listed_false hn
    have h2 := count_set _ _ h1
    omega
  | fuel + 1, listed, s, X, hs, hc, hn, hb, hl => by
    have hsz := makersB_size hB
    refine ⟨fun e => absurd e (ready_some hB hs (n + 1) n (by omega) (by omega) hn), fun i hi => ?_⟩
    obtain ⟨hf, o, ho, hdep⟩ := mem_ready.1 hi
    obtain ⟨hg, haf⟩ := makersB_each hB ho
    have hil : i < ops.size := (Array.getElem?_eq_some_iff.1 ho).1
    have hc2 : (listed.setIfInBounds i true).toList.count false = fuel := by
      have := count_set _ _ (listed_false hf)
      rw [Array.toList_setIfInBounds]
      omega
    unfold wpOp
    rw [ho]
    simp only [Region.wanted, hg, if_true]
    left
    by_cases hin : i < n
    · refine Oper.wp_mono ?_ (step i o hin ho s X hb (fun e he => hl e.on (hdep e he (haf e he).2)))
      rintro a' X' ⟨v, rfl, hb', hv, hx⟩
      refine wpAny_steps hB step stable tail fuel _ _ X' (by simpa using hs) hc2 (by rw [getD_set_ne true (by omega)]; exact hn) hb' (fun j hj => ?_)
      unfold upd
      by_cases hji : j = i
      · subst hji
        rw [if_pos rfl]
        exact hv
      · rw [if_neg hji]
        rw [getD_set_ne false (by omega)] at hj
        exact stable j _ X X' hb (hl j hj) hx
    · obtain rfl : i = n := by omega
      have hall : ∀ j, j < i → listed.getD j false = true := fun j hj => by
        obtain ⟨e, he, rfl⟩ := makersB_last hB ho hj
        exact hdep e he (haf e he).2
      refine Oper.wp_mono ?_ (tail o ho s X hb (fun j hj => hl j (hall j hj)))
      intro a' X' hq
      have hnil : Region.ready .any ops (listed.setIfInBounds i true) = [] := by
        rw [List.eq_nil_iff_forall_not_mem]
        intro j hj
        obtain ⟨h1, o', ho', _⟩ := mem_ready.1 hj
        have hjl : j < ops.size := (Array.getElem?_eq_some_iff.1 ho').1
        by_cases hji : j = i
        · subst hji
          rw [Array.getD_eq_getD_getElem?] at h1
          simp [hs, hjl] at h1
        · rw [getD_set_ne true (by omega)] at h1
          have h2 := hall j (by omega)
          rw [Array.getD_eq_getD_getElem?, Array.getElem?_eq_getElem (by omega)] at h1 h2
          simp only [Option.getD_some] at h1 h2
          rw [h1] at h2
          cases h2
      have hz : fuel = 0 := by
        by_cases h0 : fuel = 0
        · exact h0
        · have : false ∈ (listed.setIfInBounds i true).toList := by
            rw [← List.count_pos_iff]; omega
          obtain ⟨j, hj, hje⟩ := List.mem_iff_getElem.1 this
          have hjs : j < ops.size := by simpa [hs] using hj
          by_cases hji : j = i
          · subst hji
            simp at hje
          · have h2 := hall j (by omega)
            rw [Array.getD_eq_getD_getElem?, Array.getElem?_eq_getElem (by omega)] at h2
            simp only [Option.getD_some] at h2
            rw [Array.getElem_toList] at hje
            have h3 : (listed.setIfInBounds i true)[j]? = listed[j]? := Array.getElem?_setIfInBounds_ne (Ne.symm hji)
            rw [Array.getElem?_eq_getElem (by simpa using hj), Array.getElem?_eq_getElem (by omega)] at h3
            simp only [Option.some.injEq] at h3
            rw [h3, h2] at hje
            cases hje
      subst hz
      exact ⟨hnil, hq⟩

/-- the law -/
theorem region_steps {id : Nat} {W : World} (n : Nat) (F : (Nat → Value) → Array Value) (s0 : Nat → Value) (ds : List Deferred) (Sp : Nat → Value → World → Prop) (Base : World → Prop) (R : World → World → Prop)
    (hm : P.follows .mixedOrders = true) (hB : makersB ops n = true) (h0 : Base W.drew)
    (step : ∀ i o, i < n → ops[i]? = some o → ∀ (s : Nat → Value) (X : World), Base X → (∀ e ∈ o.after, Sp e.on (s e.on) X) →
      Oper.wp P o { tmps := F s, defers := ds } X (fun a' X' => ∃ v, a' = { tmps := F (upd s i v), defers := ds } ∧ Base X' ∧ Sp i v X' ∧ R X X') Q)
    (stable : ∀ j u X X', Base X → Sp j u X → R X X' → Sp j u X')
    (tail : ∀ o, ops[n]? = some o → ∀ (s : Nat → Value) (X : World), Base X → (∀ i, i < n → Sp i (s i) X) → Oper.wp P o { tmps := F s, defers := ds } X (Q .normal) Q) :
    (Code.region id ops true).wp P Q { tmps := F s0, defers := ds } W := by
  have hsz := makersB_size hB
  have none_yet : ∀ i, ¬ (Array.replicate ops.size false).getD i false = true := fun i hi => by
    rw [Array.getD_eq_getD_getElem?] at hi
    by_cases h : i < ops.size
    · simp [h] at hi
    · simp [h] at hi
  refine wp_region_any hm (wpAny_steps hB step stable tail ops.size _ s0 W.drew (by simp) (by simp) (by simp [hsz]) h0 (fun i hi => absurd hi (none_yet i)))
end
end Go.Proofs.Ytoendfpfnfeccaa
