/- A region that draws its order of evaluation: what an operation needs and spoils itself (a row that it appends to), and what was in the slots of operations that still wait. After XMade. Lemmas on code; no program. Conditions: none. -/
import Derived.Test.YtbfldhmpgealpaaMade
namespace Go.Proofs.Ytbfldhmpgealpaa
open Go Go.RowKit

section
variable {P : Program} {ops : Array Oper} {Q : Exit → Act → World → Prop}
/-- operation j waits for operation i -/
def waitsFor (ops : Array Oper) (j i : Nat) : Prop := ∃ o, ops[j]? = some o ∧ ∃ e ∈ o.after, Region.binds .any e = true ∧ e.on = i
theorem wpAny_once {n : Nat} {F : (Nat → Value) → Array Value} {s0 : Nat → Value} {ds : List Deferred} {Sp : Nat → Value → World → Prop} {Np : Nat → World → Prop} {Base : World → Prop} {R : Nat → World → World → Prop} {mk : Nat → Value → Option Nat} {E : (Nat → Value) → Prop} (hB : madeB ops n = true)
    (step : ∀ i o, i < n → ops[i]? = some o → ∀ (s : Nat → Value) (X : World), Base X → Np i X → (∀ e ∈ o.after, Region.binds .any e = true → Sp e.on (s e.on) X) → (∀ j, waitsFor ops j i → s j = s0 j) → E s →
      Oper.wp P o { tmps := F s, defers := ds } X (fun a' X' => ∃ v, a' = { tmps := F (upd s i v), defers := ds } ∧ Base X' ∧ E (upd s i v) ∧ Sp i v X' ∧ R i X X' ∧ X.heap.size ≤ X'.heap.size ∧ ∀ b, mk i v = some b → X.heap.size ≤ b ∧ b < X'.heap.size) Q)
    (stable : ∀ i j u X X', i ≠ j → Base X → Sp j u X → R i X X' → Sp j u X') (stableN : ∀ i j X X', i ≠ j → Base X → Np j X → R i X X' → Np j X')
    (tail : ∀ o, ops[n]? = some o → ∀ (s : Nat → Value) (X : World), Base X → (∀ i, i < n → Sp i (s i) X) → (∀ i j b, i < n → j < n → i ≠ j → mk i (s i) = some b → mk j (s j) ≠ some b) → E s →
      Oper.wp P o { tmps := F s, defers := ds } X (Q .normal) Q) :
    ∀ (fuel : Nat) (listed : Array Bool) (s : Nat → Value) (X : World), listed.size = ops.size → listed.toList.count false = fuel → listed.getD n true = false → Base X → (∀ i, listed.getD i false = true → Sp i (s i) X) → (∀ i, listed.getD i false = false → Np i X ∧ s i = s0 i) →
      (∀ i o, listed.getD i false = true → ops[i]? = some o → ∀ e ∈ o.after, Region.binds .any e = true → listed.getD e.on false = true) →
      (∀ i, listed.getD i false = true → ∀ b, mk i (s i) = some b → b < X.heap.size) → (∀ i j b, listed.getD i false = true → listed.getD j false = true → i ≠ j → mk i (s i) = some b → mk j (s j) ≠ some b) → E s →
      wpAny P .any ops Q fuel listed { tmps := F s, defers := ds } X
  | 0, listed, s, X, hs, hc, hn, _, _, _, _, _, _, _ => by
    have h1 := listed_false hn
    have h2 := count_set _ _ h1
    omega
  | fuel + 1, listed, s, X, hs, hc, hn, hb, hl, hun, hcl, hlt, hne, hE => by
    have hsz := madeB_size hB
    refine ⟨fun e => absurd e (ready_made hB hs (n + 1) n (by omega) (by omega) hn), fun i hi => ?_⟩
    obtain ⟨hf, o, ho, hdep⟩ := mem_ready.1 hi
    obtain ⟨hg, haf⟩ := madeB_each hB ho
    have hil : i < ops.size := (Array.getElem?_eq_some_iff.1 ho).1
    have hif : listed.getD i false = false := by
      have := listed_false hf
      rw [Array.getElem?_toList] at this
      rw [Array.getD_eq_getD_getElem?, this]; rfl
    have hc2 : (listed.setIfInBounds i true).toList.count false = fuel := by
      have := count_set _ _ (listed_false hf)
      rw [Array.toList_setIfInBounds]
      omega
    unfold wpOp
    rw [ho]
    simp only [Region.wanted, hg, if_true]
    left
    by_cases hin : i < n
    · refine Oper.wp_mono ?_ (step i o hin ho s X hb (hun i hif).1 (fun e he hbd => hl e.on (hdep e he hbd)) (fun j ⟨o', ho', e, he, hbd, hei⟩ => ?_) hE)
      · rintro a' X' ⟨v, rfl, hb', hE', hv, hx, hxs, hnew⟩
        refine wpAny_once hB step stable stableN tail fuel _ _ X' (by simpa using hs) hc2 (by rw [getD_set_ne true (by omega)]; exact hn) hb' (fun j hj => ?_) (fun j hj => ?_) (fun j o' hj ho' e he hbd => ?_) (fun j hj b hbb => ?_) (fun j k b hj hk hjk hbb hbk => ?_) hE'
        · unfold upd
          by_cases hji : j = i
          · subst hji
            rw [if_pos rfl]
            exact hv
          · rw [if_neg hji]
            rw [getD_set_ne false (by omega)] at hj
            exact stable i j _ X X' (Ne.symm hji) hb (hl j hj) hx
        · by_cases hji : j = i
          · subst hji
            rw [Array.getD_eq_getD_getElem?] at hj
            simp [hs, hil] at hj
          · rw [getD_set_ne false (by omega)] at hj
            refine ⟨stableN i j X X' (Ne.symm hji) hb (hun j hj).1 hx, ?_⟩
            unfold upd
            rw [if_neg hji]
            exact (hun j hj).2
        · by_cases hji : j = i
          · subst hji
            rw [ho] at ho'
            cases ho'
            by_cases hee : e.on = j
            · have := haf e he hbd
              omega
            · rw [getD_set_ne false (by omega)]
              exact hdep e he hbd
          · rw [getD_set_ne false (by omega)] at hj
            have h1 := hcl j o' hj ho' e he hbd
            by_cases hee : e.on = i
            · rw [hee, hif] at h1; cases h1
            · rw [getD_set_ne false (by omega)]
              exact h1
        · unfold upd at hbb
          by_cases hji : j = i
          · subst hji
            rw [if_pos rfl] at hbb
            exact (hnew b hbb).2
          · rw [if_neg hji] at hbb
            rw [getD_set_ne false (by omega)] at hj
            have := hlt j hj b hbb
            omega
        · unfold upd at hbb hbk
          by_cases hji : j = i
          · subst hji
            rw [if_pos rfl] at hbb
            rw [if_neg (Ne.symm hjk)] at hbk
            rw [getD_set_ne false hjk] at hk
            have h1 := hlt k hk b hbk
            have h2 := (hnew b hbb).1
            omega
          · rw [if_neg hji] at hbb
            rw [getD_set_ne false (by omega)] at hj
            by_cases hki : k = i
            · subst hki
              rw [if_pos rfl] at hbk
              have h1 := hlt j hj b hbb
              have h2 := (hnew b hbk).1
              omega
            · rw [if_neg hki] at hbk
              rw [getD_set_ne false (by omega)] at hk
              exact hne j k b hj hk hjk hbb hbk
      · by_cases hjl : listed.getD j false = true
        · have := hcl j o' hjl ho' e he hbd
          rw [hei, hif] at this
          cases this
        · exact (hun j (by simpa using hjl)).2
    · obtain rfl : i = n := by omega
      have hall : ∀ j, j < i → listed.getD j false = true := fun j hj => by
        obtain ⟨e, he, rfl, hbd⟩ := madeB_last hB ho hj
        exact hdep e he hbd
      refine Oper.wp_mono ?_ (tail o ho s X hb (fun j hj => hl j (hall j hj)) (fun j k b hj hk => hne j k b (hall j hj) (hall k hk)) hE)
      intro a' X' hq
      have hnil : Region.ready .any ops (listed.setIfInBounds i true) = [] := by
        rw [List.eq_nil_iff_forall_not_mem]
        intro j hj
        obtain ⟨h1, o', ho', _⟩ := mem_ready.1 hj
        have hjl : j < ops.size := (Array.getElem?_eq_some_iff.1 ho').1
        by_cases hji : j = i
        · subst hji
          rw [Array.getD_eq_getD_getElem?] at h1
          simp [hs, hjl] at h1
        · rw [getD_set_ne true (by omega)] at h1
          have h2 := hall j (by omega)
          rw [Array.getD_eq_getD_getElem?, Array.getElem?_eq_getElem (by omega)] at h1 h2
          simp only [Option.getD_some] at h1 h2
          rw [h1] at h2
          cases h2
      have hz : fuel = 0 := by
        by_cases h0 : fuel = 0
        · exact h0
        · have : false ∈ (listed.setIfInBounds i true).toList := by
            rw [← List.count_pos_iff]; omega
          obtain ⟨j, hj, hje⟩ := List.mem_iff_getElem.1 this
          have hjs : j < ops.size := by simpa [hs] using hj
          by_cases hji : j = i
          · subst hji
            simp at hje
          · have h2 := hall j (by omega)
            rw [Array.getD_eq_getD_getElem?, Array.getElem?_eq_getElem (by omega)] at h2
            simp only [Option.getD_some] at h2
            rw [Array.getElem_toList] at hje
            have h3 : (listed.setIfInBounds i true)[j]? = listed[j]? := Array.getElem?_setIfInBounds_ne (Ne.symm hji)
            rw [Array.getElem?_eq_getElem (by simpa using hj), Array.getElem?_eq_getElem (by omega)] at h3
            simp only [Option.some.injEq] at h3
            rw [h3, h2] at hje
            cases hje
      subst hz
      exact ⟨hnil, hq⟩

/-- the law -/
theorem region_once {id : Nat} {W : World} (n : Nat) (F : (Nat → Value) → Array Value) (s0 : Nat → Value) (ds : List Deferred) (Sp : Nat → Value → World → Prop) (Np : Nat → World → Prop) (Base : World → Prop) (R : Nat → World → World → Prop) (mk : Nat → Value → Option Nat) (E : (Nat → Value) → Prop)
    (hm : P.follows .mixedOrders = true) (hB : madeB ops n = true) (h0 : Base W.drew) (hN : ∀ i, Np i W.drew) (hE : E s0)
    (step : ∀ i o, i < n → ops[i]? = some o → ∀ (s : Nat → Value) (X : World), Base X → Np i X → (∀ e ∈ o.after, Region.binds .any e = true → Sp e.on (s e.on) X) → (∀ j, waitsFor ops j i → s j = s0 j) → E s →
      Oper.wp P o { tmps := F s, defers := ds } X (fun a' X' => ∃ v, a' = { tmps := F (upd s i v), defers := ds } ∧ Base X' ∧ E (upd s i v) ∧ Sp i v X' ∧ R i X X' ∧ X.heap.size ≤ X'.heap.size ∧ ∀ b, mk i v = some b → X.heap.size ≤ b ∧ b < X'.heap.size) Q)
    (stable : ∀ i j u X X', i ≠ j → Base X → Sp j u X → R i X X' → Sp j u X') (stableN : ∀ i j X X', i ≠ j → Base X → Np j X → R i X X' → Np j X')
    (tail : ∀ o, ops[n]? = some o → ∀ (s : Nat → Value) (X : World), Base X → (∀ i, i < n → Sp i (s i) X) → (∀ i j b, i < n → j < n → i ≠ j → mk i (s i) = some b → mk j (s j) ≠ some b) → E s →
      Oper.wp P o { tmps := F s, defers := ds } X (Q .normal) Q) :
    (Code.region id ops true).wp P Q { tmps := F s0, defers := ds } W := by
  have hsz := madeB_size hB
  have none_yet : ∀ i, ¬ (Array.replicate ops.size false).getD i false = true := fun i hi => by
    rw [Array.getD_eq_getD_getElem?] at hi
    by_cases h : i < ops.size
    · simp [h] at hi
    · simp [h] at hi
  refine wp_region_any hm (wpAny_once hB step stable stableN tail ops.size _ s0 W.drew (by simp) (by simp) (by simp [hsz]) h0 (fun i hi => absurd hi (none_yet i)) (fun i _ => ⟨hN i, rfl⟩) (fun i _ hi => absurd hi (none_yet i)) (fun i hi => absurd hi (none_yet i)) (fun i _ _ hi => absurd hi (none_yet i)) hE)
end
end Go.Proofs.Ytbfldhmpgealpaa
