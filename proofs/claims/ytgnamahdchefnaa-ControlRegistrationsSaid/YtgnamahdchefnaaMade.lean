/- A region that draws its order of evaluation, whose operations make memory, each of its own, and whose last operation waits for all others; edges that do not bind are left out of account. Lemmas on code; no program. Conditions: none. -/
import Derived.Test.YtgnamahdchefnaaMakers
namespace Go.Proofs.Ytgnamahdchefnaa
open Go Go.RowKit

/-- each operation waits, where it must, for earlier ones alone, unguarded; the last one, number n, waits for all -/
def madeB (ops : Array Oper) (n : Nat) : Bool :=
  ops.size == n + 1 && (List.range ops.size).all (fun i => match ops[i]? with
    | some o => o.guard.isNone && o.after.toList.all (fun e => !Region.binds .any e || decide (e.on < i))
    | none => false) && (match ops[n]? with
    | some o => (List.range n).all (fun j => o.after.toList.any (fun e => e.on == j && Region.binds .any e))
    | none => false)

theorem madeB_size {ops : Array Oper} {n : Nat} (h : madeB ops n = true) : ops.size = n + 1 := by
  unfold madeB at h
  rw [Bool.and_eq_true, Bool.and_eq_true] at h
  simpa using h.1.1
theorem madeB_each {ops : Array Oper} {n i : Nat} {o : Oper} (h : madeB ops n = true) (ho : ops[i]? = some o) : o.guard = none ∧ ∀ e ∈ o.after, Region.binds .any e = true → e.on < i := by
  unfold madeB at h
  rw [Bool.and_eq_true, Bool.and_eq_true] at h
  have h2 := List.all_eq_true.1 h.1.2 i (List.mem_range.2 (Array.getElem?_eq_some_iff.1 ho).1)
  rw [ho] at h2
  simp only [Bool.and_eq_true, Option.isNone_iff_eq_none] at h2
  refine ⟨h2.1, fun e he hb => ?_⟩
  have := List.all_eq_true.1 h2.2 e (by simpa using he)
  simpa [hb] using this
theorem madeB_last {ops : Array Oper} {n j : Nat} {o : Oper} (h : madeB ops n = true) (ho : ops[n]? = some o) (hj : j < n) : ∃ e ∈ o.after, e.on = j ∧ Region.binds .any e = true := by
  unfold madeB at h
  rw [Bool.and_eq_true, Bool.and_eq_true] at h
  have h2 := h.2
  rw [ho] at h2
  have := List.all_eq_true.1 h2 j (List.mem_range.2 hj)
  obtain ⟨e, he, h3⟩ := List.any_eq_true.1 this
  exact ⟨e, by simpa using he, by simpa using h3⟩

section
variable {P : Program} {ops : Array Oper} {Q : Exit → Act → World → Prop}
/-- a first operation that is not listed is ready -/
theorem ready_made {n : Nat} (hB : madeB ops n = true) {listed : Array Bool} (hs : listed.size = ops.size) : ∀ N i : Nat, i < N → i < ops.size → listed.getD i true = false → Region.ready .any ops listed ≠ []
  | 0, i, h, _, _ => by omega
  | N + 1, i, h, hi, hf => by
    by_cases hall : ∀ j, j < i → listed.getD j false = true
    · have hm : i ∈ Region.ready .any ops listed := by
        rw [mem_ready]
        exact ⟨hf, ops[i], Array.getElem?_eq_getElem hi, fun e he hbd => hall e.on (madeB_each hB (Array.getElem?_eq_getElem hi) |>.2 e he hbd)⟩
      intro e
      rw [e] at hm
      cases hm
    · obtain ⟨j, hj⟩ := Classical.not_forall.1 hall
      obtain ⟨hj1, hj2⟩ := Classical.not_imp.1 hj
      refine ready_made hB hs N j (by omega) (by omega) ?_
      have hjl : j < listed.size := by omega
      simp only [Array.getD_eq_getD_getElem?, Array.getElem?_eq_getElem hjl, Option.getD_some] at hj2 ⊢
      simpa using hj2

theorem wpAny_made {n : Nat} {F : (Nat → Value) → Array Value} {ds : List Deferred} {Sp : Nat → Value → World → Prop} {Base : World → Prop} {mk : Nat → Value → Option Nat} (hB : madeB ops n = true)
    (step : ∀ i o, i < n → ops[i]? = some o → ∀ (s : Nat → Value) (X : World), Base X → (∀ e ∈ o.after, Region.binds .any e = true → Sp e.on (s e.on) X) → (∀ e ∈ o.after, Region.binds .any e = true → ∀ e' ∈ o.after, Region.binds .any e' = true → e.on ≠ e'.on → ∀ b, mk e.on (s e.on) = some b → mk e'.on (s e'.on) ≠ some b) →
      Oper.wp P o { tmps := F s, defers := ds } X (fun a' X' => ∃ v, a' = { tmps := F (upd s i v), defers := ds } ∧ Base X' ∧ Sp i v X' ∧ Below X.heap.size X X' ∧ ∀ b, mk i v = some b → X.heap.size ≤ b ∧ b < X'.heap.size) Q)
    (stable : ∀ j u X X', Base X → Sp j u X → Below X.heap.size X X' → Sp j u X')
    (tail : ∀ o, ops[n]? = some o → ∀ (s : Nat → Value) (X : World), Base X → (∀ i, i < n → Sp i (s i) X) → (∀ i, i < n → ∀ b, mk i (s i) = some b → b < X.heap.size) → (∀ i j b, i < n → j < n → i ≠ j → mk i (s i) = some b → mk j (s j) ≠ some b) →
      Oper.wp P o { tmps := F s, defers := ds } X (Q .normal) Q) :
    ∀ (fuel : Nat) (listed : Array Bool) (s : Nat → Value) (X : World), listed.size = ops.size → listed.toList.count false = fuel → listed.getD n true = false → Base X → (∀ i, listed.getD i false = true → Sp i (s i) X) →
      (∀ i, listed.getD i false = true → ∀ b, mk i (s i) = some b → b < X.heap.size) → (∀ i j b, listed.getD i false = true → listed.getD j false = true → i ≠ j → mk i (s i) = some b → mk j (s j) ≠ some b) →
      wpAny P .any ops Q fuel listed { tmps := F s, defers := ds } X
  | 0, listed, s, X, hs, hc, hn, _, _, _, _ => by
    have h1 := listed_false hn
    have h2 := count_set _ _ h1
    omega
  | fuel + 1, listed, s, X, hs, hc, hn, hb, hl, hlt, hne => by
    have hsz := madeB_size hB
    refine ⟨fun e => absurd e (ready_made hB hs (n + 1) n (by omega) (by omega) hn), fun i hi => ?_⟩
    obtain ⟨hf, o, ho, hdep⟩ := mem_ready.1 hi
    obtain ⟨hg, haf⟩ := madeB_each hB ho
    have hil : i < ops.size := (Array.getElem?_eq_some_iff.1 ho).1
    have hc2 : (listed.setIfInBounds i true).toList.count false = fuel := by
      have := count_set _ _ (listed_false hf)
      rw [Array.toList_setIfInBounds]
      omega
    unfold wpOp
    rw [ho]
    simp only [Region.wanted, hg, if_true]
    left
    by_cases hin : i < n
    · refine Oper.wp_mono ?_ (step i o hin ho s X hb (fun e he hbd => hl e.on (hdep e he hbd)) (fun e he hbd e' he' hbd' hne' b => hne e.on e'.on b (hdep e he hbd) (hdep e' he' hbd') hne'))
      rintro a' X' ⟨v, rfl, hb', hv, hx, hnew⟩
      refine wpAny_made hB step stable tail fuel _ _ X' (by simpa using hs) hc2 (by rw [getD_set_ne true (by omega)]; exact hn) hb' (fun j hj => ?_) (fun j hj b hbb => ?_) (fun j k b hj hk hjk hbb hbk => ?_)
      · unfold upd
        by_cases hji : j = i
        · subst hji
          rw [if_pos rfl]
          exact hv
        · rw [if_neg hji]
          rw [getD_set_ne false (by omega)] at hj
          exact stable j _ X X' hb (hl j hj) hx
      · unfold upd at hbb
        by_cases hji : j = i
        · subst hji
          rw [if_pos rfl] at hbb
          exact (hnew b hbb).2
        · rw [if_neg hji] at hbb
          rw [getD_set_ne false (by omega)] at hj
          have := hlt j hj b hbb
          have := hx.size
          omega
      · unfold upd at hbb hbk
        by_cases hji : j = i
        · subst hji
          rw [if_pos rfl] at hbb
          rw [if_neg (Ne.symm hjk)] at hbk
          rw [getD_set_ne false hjk] at hk
          have h1 := hlt k hk b hbk
          have h2 := (hnew b hbb).1
          omega
        · rw [if_neg hji] at hbb
          rw [getD_set_ne false (by omega)] at hj
          by_cases hki : k = i
          · subst hki
            rw [if_pos rfl] at hbk
            have h1 := hlt j hj b hbb
            have h2 := (hnew b hbk).1
            omega
          · rw [if_neg hki] at hbk
            rw [getD_set_ne false (by omega)] at hk
            exact hne j k b hj hk hjk hbb hbk
    · obtain rfl : i = n := by omega
      have hall : ∀ j, j < i → listed.getD j false = true := fun j hj => by
        obtain ⟨e, he, rfl, hbd⟩ := madeB_last hB ho hj
        exact hdep e he hbd
      refine Oper.wp_mono ?_ (tail o ho s X hb (fun j hj => hl j (hall j hj)) (fun j hj => hlt j (hall j hj)) (fun j k b hj hk => hne j k b (hall j hj) (hall k hk)))
      intro a' X' hq
      have hnil : Region.ready .any ops (listed.setIfInBounds i true) = [] := by
        rw [List.eq_nil_iff_forall_not_mem]
        intro j hj
        obtain ⟨h1, o', ho', _⟩ := mem_ready.1 hj
        have hjl : j < ops.size := (Array.getElem?_eq_some_iff.1 ho').1
        by_cases hji : j = i
        · subst hji
          rw [Array.getD_eq_getD_getElem?] at h1
          simp [hs, hjl] at h1
        · rw [getD_set_ne true (by omega)] at h1
          have h2 := hall j (by omega)
          rw [Array.getD_eq_getD_getElem?, Array.getElem?_eq_getElem (by omega)] at h1 h2
          simp only [Option.getD_some] at h1 h2
          rw [h1] at h2
          cases h2
      have hz : fuel = 0 := by
        by_cases h0 : fuel = 0
        · exact h0
        · have : false ∈ (listed.setIfInBounds i true).toList := by
            rw [← List.count_pos_iff]; omega
          obtain ⟨j, hj, hje⟩ := List.mem_iff_getElem.1 this
          have hjs : j < ops.size := by simpa [hs] using hj
          by_cases hji : j = i
          · subst hji
            simp at hje
          · have h2 := hall j (by omega)
            rw [Array.getD_eq_getD_getElem?, Array.getElem?_eq_getElem (by omega)] at h2
            simp only [Option.getD_some] at h2
            rw [Array.getElem_toList] at hje
            have h3 : (listed.setIfInBounds i true)[j]? = listed[j]? := Array.getElem?_setIfInBounds_ne (Ne.symm hji)
            rw [Array.getElem?_eq_getElem (by simpa using hj), Array.getElem?_eq_getElem (by omega)] at h3
            simp only [Option.some.injEq] at h3
            rw [h3, h2] at hje
            cases hje
      subst hz
      exact ⟨hnil, hq⟩

/-- the law -/
theorem region_made {id : Nat} {W : World} (n : Nat) (F : (Nat → Value) → Array Value) (s0 : Nat → Value) (ds : List Deferred) (Sp : Nat → Value → World → Prop) (Base : World → Prop) (mk : Nat → Value → Option Nat)
    (hm : P.follows .mixedOrders = true) (hB : madeB ops n = true) (h0 : Base W.drew)
    (step : ∀ i o, i < n → ops[i]? = some o → ∀ (s : Nat → Value) (X : World), Base X → (∀ e ∈ o.after, Region.binds .any e = true → Sp e.on (s e.on) X) → (∀ e ∈ o.after, Region.binds .any e = true → ∀ e' ∈ o.after, Region.binds .any e' = true → e.on ≠ e'.on → ∀ b, mk e.on (s e.on) = some b → mk e'.on (s e'.on) ≠ some b) →
      Oper.wp P o { tmps := F s, defers := ds } X (fun a' X' => ∃ v, a' = { tmps := F (upd s i v), defers := ds } ∧ Base X' ∧ Sp i v X' ∧ Below X.heap.size X X' ∧ ∀ b, mk i v = some b → X.heap.size ≤ b ∧ b < X'.heap.size) Q)
    (stable : ∀ j u X X', Base X → Sp j u X → Below X.heap.size X X' → Sp j u X')
    (tail : ∀ o, ops[n]? = some o → ∀ (s : Nat → Value) (X : World), Base X → (∀ i, i < n → Sp i (s i) X) → (∀ i, i < n → ∀ b, mk i (s i) = some b → b < X.heap.size) → (∀ i j b, i < n → j < n → i ≠ j → mk i (s i) = some b → mk j (s j) ≠ some b) →
      Oper.wp P o { tmps := F s, defers := ds } X (Q .normal) Q) :
    (Code.region id ops true).wp P Q { tmps := F s0, defers := ds } W := by
  have hsz := madeB_size hB
  have none_yet : ∀ i, ¬ (Array.replicate ops.size false).getD i false = true := fun i hi => by
    rw [Array.getD_eq_getD_getElem?] at hi
    by_cases h : i < ops.size
    · simp [h] at hi
    · simp [h] at hi
  refine wp_region_any hm (wpAny_made hB step stable tail ops.size _ s0 W.drew (by simp) (by simp) (by simp [hsz]) h0 (fun i hi => absurd hi (none_yet i)) (fun i hi => absurd hi (none_yet i)) (fun i _ _ hi => absurd hi (none_yet i)))
end
end Go.Proofs.Ytgnamahdchefnaa
