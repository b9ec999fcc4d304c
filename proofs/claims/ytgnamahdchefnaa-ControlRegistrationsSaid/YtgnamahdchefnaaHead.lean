/- A region that draws its order of evaluation, with operations that may come in any order, each with its own need and its own spoil, and a tail that lies in one forced order. After XOnce. Lemmas on code; no program. Conditions: none. -/
import Derived.Test.YtgnamahdchefnaaMade
import Derived.StillTail
namespace Go.Proofs.Ytgnamahdchefnaa
open Go Go.RowKit

/-- the operations ahead of the tail: unguarded, each waits for earlier ones alone -/
def headB (ops : Array Oper) (n : Nat) : Bool := (List.range n).all (fun i => match ops[i]? with
    | some o => o.guard.isNone && o.after.toList.all (fun e => !Region.binds .any e || decide (e.on < i))
    | none => false)
theorem headB_each {ops : Array Oper} {n i : Nat} (h : headB ops n = true) (hi : i < n) : ∃ o, ops[i]? = some o ∧ o.guard = none ∧ ∀ e ∈ o.after, Region.binds .any e = true → e.on < i := by
  have h2 := List.all_eq_true.1 h i (List.mem_range.2 hi)
  cases ho : ops[i]? with
  | none => rw [ho] at h2; cases h2
  | some o =>
    rw [ho] at h2
    simp only [Bool.and_eq_true, Option.isNone_iff_eq_none] at h2
    refine ⟨o, rfl, h2.1, fun e he hb => ?_⟩
    have := List.all_eq_true.1 h2.2 e (by simpa using he)
    simpa [hb] using this
def fillB (n g : Nat) : Array Bool := (List.replicate n true ++ List.replicate g false).toArray
theorem fill_eq {listed : Array Bool} {n g : Nat} (hs : listed.size = n + g) (h1 : ∀ i, i < n → listed.getD i false = true) (h2 : ∀ i, n ≤ i → i < n + g → listed.getD i true = false) : listed = fillB n g := by
  apply Array.ext
  · simp [fillB, hs]
  · intro i hi hi2
    rcases Nat.lt_or_ge i n with h | h
    · have := h1 i h
      rw [Array.getD_eq_getD_getElem?, Array.getElem?_eq_getElem hi] at this
      simp only [Option.getD_some] at this
      rw [this]
      simp [fillB, h]
    · have := h2 i h (by omega)
      rw [Array.getD_eq_getD_getElem?, Array.getElem?_eq_getElem hi] at this
      simp only [Option.getD_some] at this
      rw [this]
      simp [fillB, List.getElem_append, Nat.not_lt.2 h]
/-- how many of the first n are not listed -/
def opn (listed : Array Bool) (n : Nat) : Nat := ((List.range n).filter (fun i => !listed.getD i false)).length
theorem opn_zero {listed : Array Bool} {n : Nat} (h : opn listed n = 0) : ∀ i, i < n → listed.getD i false = true := fun i hi => by
  unfold opn at h
  have h1 := List.filter_eq_nil_iff.1 (List.eq_nil_of_length_eq_zero h) i (List.mem_range.2 hi)
  simpa using h1
theorem opn_set {listed : Array Bool} {n i : Nat} (hi : i < n) (hs : i < listed.size) (h : listed.getD i false = false) : opn (listed.setIfInBounds i true) n + 1 = opn listed n := by
  unfold opn
  have key : ∀ (l : List Nat), l.Nodup → (l.filter (fun j => !(listed.setIfInBounds i true).getD j false)).length + (if i ∈ l then 1 else 0) = (l.filter (fun j => !listed.getD j false)).length := fun l => by
    induction l with
    | nil => intro _; rfl
    | cons x l ih =>
      intro hd
      obtain ⟨hx, hd2⟩ := List.nodup_cons.1 hd
      have h1 := ih hd2
      by_cases hxi : x = i
      · subst hxi
        have e1 : (!(listed.setIfInBounds x true).getD x false) = false := by simp [hs]
        have e2 : (!listed.getD x false) = true := by rw [h]; rfl
        have e3 : (if x ∈ x :: l then 1 else 0 : Nat) = 1 := by simp
        rw [List.filter_cons, List.filter_cons, e1, e2, e3, if_neg (by decide), if_pos rfl, List.length_cons]
        rw [if_neg hx] at h1
        omega
      · have e1 : (listed.setIfInBounds i true).getD x false = listed.getD x false := getD_set_ne false (Ne.symm hxi)
        have e2 : (if i ∈ x :: l then 1 else 0) = (if i ∈ l then 1 else 0 : Nat) := by simp [Ne.symm hxi]
        rw [List.filter_cons, List.filter_cons, e1, e2]
        split
        · rw [List.length_cons, List.length_cons]; omega
        · exact h1
  have := key (List.range n) List.nodup_range
  rw [if_pos (List.mem_range.2 hi)] at this
  exact this

section
variable {P : Program} {ops : Array Oper} {Q : Exit → Act → World → Prop}
theorem ready_head {n : Nat} (hB : headB ops n = true) {listed : Array Bool} : ∀ N i : Nat, i < N → i < n → listed.getD i true = false → Region.ready .any ops listed ≠ []
  | 0, i, h, _, _ => by omega
  | N + 1, i, h, hi, hf => by
    obtain ⟨o, ho, -, haf⟩ := headB_each hB hi
    by_cases hall : ∀ j, j < i → listed.getD j false = true
    · have hm : i ∈ Region.ready .any ops listed := mem_ready.2 ⟨hf, o, ho, fun e he hb => hall e.on (haf e he hb)⟩
      intro e
      rw [e] at hm
      cases hm
    · obtain ⟨j, hj⟩ := Classical.not_forall.1 hall
      obtain ⟨hj1, hj2⟩ := Classical.not_imp.1 hj
      have hjf : listed.getD j false = false := by simpa using hj2
      have hs : i < listed.size := by
        rcases Nat.lt_or_ge i listed.size with h1 | h1
        · exact h1
        · rw [Array.getD_eq_getD_getElem?, Array.getElem?_eq_none h1] at hf
          cases hf
      exact ready_head hB N j (by omega) (by omega) (getD_in (by omega) hjf)
theorem wpAny_head {n : Nat} {F : (Nat → Value) → Array Value} {ds : List Deferred} {Sp : Nat → Value → World → Prop} {Np : Nat → World → Prop} {Base : World → Prop} {R : Nat → World → World → Prop}
    (hB : headB ops n = true) (hs : Region.sinkB .any ops n = true) (hc : Region.chainB .any ops n = true) (hn : n < ops.size) (hq : Region.seqB .any ops (ops.size - n) n (fillB n (ops.size - n)) = true)
    (step : ∀ i o, i < n → ops[i]? = some o → ∀ (s : Nat → Value) (X : World), Base X → Np i X → (∀ e ∈ o.after, Region.binds .any e = true → Sp e.on (s e.on) X) →
      Oper.wp P o { tmps := F s, defers := ds } X (fun a' X' => ∃ v, a' = { tmps := F (upd s i v), defers := ds } ∧ Base X' ∧ Sp i v X' ∧ R i X X') Q)
    (stable : ∀ i j u X X', i ≠ j → Base X → Sp j u X → R i X X' → Sp j u X') (stableN : ∀ i j X X', i ≠ j → Base X → Np j X → R i X X' → Np j X')
    (tail : ∀ (s : Nat → Value) (X : World), Base X → (∀ i, i < n → Sp i (s i) X) → wpList P ops Q (ops.toList.drop n) { tmps := F s, defers := ds } X) :
    ∀ (fuel : Nat) (listed : Array Bool) (s : Nat → Value) (X : World), HeadInv .any ops n listed → opn listed n = fuel → Base X → (∀ i, i < n → listed.getD i false = true → Sp i (s i) X) → (∀ i, i < n → listed.getD i false = false → Np i X) →
      wpAny P .any ops Q (fuel + (ops.size - n)) listed { tmps := F s, defers := ds } X
  | 0, listed, s, X, inv, h0, hb, hl, hun => by
    have hall := opn_zero h0
    have e := fill_eq (g := ops.size - n) (by rw [inv.size]; omega) hall (fun i h1 h2 => inv.tail i h1 (by omega))
    have h := tail s X hb (fun i hi => hl i hi (hall i hi))
    rw [Nat.zero_add, e]
    have hlen : (ops.toList.drop n).length = ops.size - n := by simp
    have := wpAny_of_seq (md := .any) (Q' := Q) (ops.toList.drop n) n (fillB n (ops.size - n)) { tmps := F s, defers := ds } X (fun j => by rw [List.getElem?_drop, Array.getElem?_toList]) (by rw [hlen]; exact hq) h
    rwa [hlen] at this
  | fuel + 1, listed, s, X, inv, h0, hb, hl, hun => by
    rw [show fuel + 1 + (ops.size - n) = (fuel + (ops.size - n)) + 1 by omega]
    obtain ⟨k, hk, hkf⟩ : ∃ k, k < n ∧ listed.getD k false = false := by
      apply Classical.byContradiction
      intro hno
      have : opn listed n = 0 := by
        unfold opn
        rw [List.length_eq_zero_iff, List.filter_eq_nil_iff]
        intro i hi
        have hi' := List.mem_range.1 hi
        have : ¬ listed.getD i false = false := fun e => hno ⟨i, hi', e⟩
        simpa using this
      omega
    have hkt : listed.getD k true = false := getD_in (by rw [inv.size]; omega) hkf
    refine ⟨fun e => absurd e (ready_head hB (n + 1) k (by omega) hk hkt), fun i hi => ?_⟩
    have hin : i < n := by
      rcases Nat.lt_or_ge i n with h | h
      · exact h
      · exact absurd hi (tail_waits hs hc hn inv _ k rfl hk hkt i h)
    obtain ⟨hf, o, ho, hdep⟩ := mem_ready.1 hi
    obtain ⟨o', ho', hg, haf⟩ := headB_each hB hin
    rw [ho] at ho'
    obtain rfl : o = o' := Option.some.inj ho'
    have hif : listed.getD i false = false := getD_both hf
    unfold wpOp
    rw [ho]
    simp only [Region.wanted, hg, if_true]
    left
    refine Oper.wp_mono ?_ (step i o hin ho s X hb (hun i hin hif) (fun e he hbd => hl e.on (by have := haf e he hbd; omega) (hdep e he hbd)))
    rintro a' X' ⟨v, rfl, hb', hv, hx⟩
    have hset := opn_set (n := n) hin (by rw [inv.size]; omega) hif
    refine wpAny_head hB hs hc hn hq step stable stableN tail fuel _ _ X' (inv.set hi hin) (by omega) hb' (fun j hjn hj => ?_) (fun j hjn hj => ?_)
    · unfold upd
      by_cases hji : j = i
      · subst hji
        rw [if_pos rfl]
        exact hv
      · rw [if_neg hji]
        rw [getD_set_ne false (Ne.symm hji)] at hj
        exact stable i j _ X X' (Ne.symm hji) hb (hl j hjn hj) hx
    · by_cases hji : j = i
      · subst hji
        rw [Array.getD_eq_getD_getElem?] at hj
        have hjs : j < listed.size := by rw [inv.size]; omega
        simp [hjs] at hj
      · rw [getD_set_ne false (Ne.symm hji)] at hj
        exact stableN i j X X' (Ne.symm hji) hb (hun j hjn hj) hx

/-- the law -/
theorem region_head {id : Nat} {W : World} {l : List Oper} (n : Nat) (F : (Nat → Value) → Array Value) (s0 : Nat → Value) (ds : List Deferred) (Sp : Nat → Value → World → Prop) (Np : Nat → World → Prop) (Base : World → Prop) (R : Nat → World → World → Prop)
    (hm : P.follows .mixedOrders = true) (hB : headB l.toArray n = true) (hs : Region.sinkB .any l.toArray n = true) (hc : Region.chainB .any l.toArray n = true) (hn : n < l.toArray.size) (hq : Region.seqB .any l.toArray (l.toArray.size - n) n (fillB n (l.toArray.size - n)) = true)
    (h0 : Base W.drew) (hN : ∀ i, i < n → Np i W.drew)
    (step : ∀ i o, i < n → l.toArray[i]? = some o → ∀ (s : Nat → Value) (X : World), Base X → Np i X → (∀ e ∈ o.after, Region.binds .any e = true → Sp e.on (s e.on) X) →
      Oper.wp P o { tmps := F s, defers := ds } X (fun a' X' => ∃ v, a' = { tmps := F (upd s i v), defers := ds } ∧ Base X' ∧ Sp i v X' ∧ R i X X') Q)
    (stable : ∀ i j u X X', i ≠ j → Base X → Sp j u X → R i X X' → Sp j u X') (stableN : ∀ i j X X', i ≠ j → Base X → Np j X → R i X X' → Np j X')
    (tail : ∀ (s : Nat → Value) (X : World), Base X → (∀ i, i < n → Sp i (s i) X) → wpList P l.toArray Q (l.drop n) { tmps := F s, defers := ds } X) :
    (Code.region id l.toArray true).wp P Q { tmps := F s0, defers := ds } W := by
  have inv0 : HeadInv .any l.toArray n (Array.replicate l.toArray.size false) :=
    ⟨by simp, fun j oj _ hl => (by rw [getD_replicate_false] at hl; cases hl), fun t _ ht => getD_in (by simpa using ht) (getD_replicate_false _ _)⟩
  have hop : opn (Array.replicate l.toArray.size false) n = n := by
    unfold opn
    rw [List.filter_eq_self.2 (fun i _ => by rw [getD_replicate_false]; rfl), List.length_range]
  refine wp_region_any hm ?_
  have := wpAny_head (P := P) (Q := Q) (F := F) (ds := ds) hB hs hc hn hq step stable stableN tail n _ s0 W.drew inv0 hop h0 (fun i _ hi => by rw [getD_replicate_false] at hi; cases hi) (fun i hi _ => hN i hi)
  rwa [show n + (l.toArray.size - n) = l.toArray.size by omega] at this
end
end Go.Proofs.Ytgnamahdchefnaa
