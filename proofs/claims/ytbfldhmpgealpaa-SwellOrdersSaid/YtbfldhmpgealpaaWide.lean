/- A region that draws its order of evaluation, inside a call that is walked behind the wide fence: its head only reads, its tail lies in one forced order. Lemmas on code; no program. Conditions: none. -/
import Derived.Test.YtbfldhmpgealpaaRound
namespace Go.Proofs.Ytbfldhmpgealpaa
open Go

theorem oper_wide {n : Nat} {P : Program} {o : Oper} {a : Act} {w : World} {next : Act → World → Prop} {Q : Exit → Act → World → Prop} (hd : plainOp o = true)
    (h : o.wp P a w next (NoOut Q)) : o.wpIn Fence.wide n P a w next Q := by
  refine ⟨fun _ _ => trivial, ?_⟩
  rw [Oper.semAt_eq _ _ _ (plainOp_spec hd)]
  unfold Oper.wp at h
  revert h
  generalize (execOp a.eval o).run P w = r
  intro h
  match r, h with
  | .ok (.value v) w', h => exact h
  | .ok .skip w', h => exact h
  | .ok (.defer d) w', h => exact h
  | .ok (.enter f args) w', h =>
    refine ⟨fun hs => (by cases hs), callsIn_wide.2 (Calls.mono h ?_)⟩
    intro e w'' he
    match e, he with
    | .returned v, he => exact he
    | .panicked c, he => exact he.2
    | .outgrown, he => exact absurd he noOut_letsOut
  | .ok (.row row args) w', h =>
    refine ⟨fun hs => (by cases hs), fun c cs _ => ?_⟩
    obtain ⟨v, w1, hr, hst⟩ := h c cs
    exact ⟨v, w1, hr, stepsIn_wide.2 hst⟩
  | .halt (.panic v) w', h => exact h.2

theorem wpAny_wide {n : Nat} {P : Program} {md : Region.Mode} {ops : Array Oper} {Q : Exit → Act → World → Prop} (hd : ∀ (i : Nat) o, ops[i]? = some o → plainOp o = true) :
    ∀ (fuel : Nat) (listed : Array Bool) (a : Act) (w : World), wpAny P md ops (NoOut Q) fuel listed a w → wpAnyIn Fence.wide n P md ops Q fuel listed a w
  | 0, _, _, _, h => ⟨h.1, h.2.2⟩
  | fuel + 1, listed, a, w, h => by
    refine ⟨fun h0 => (h.1 h0).2, fun i hi => ?_⟩
    have h2 := h.2 i hi
    unfold wpOp at h2
    unfold wpOpIn
    cases ho : ops[i]? with
    | none =>
      simp only [ho] at h2
      exact wpAny_wide hd fuel _ _ _ h2
    | some o =>
      simp only [ho] at h2 ⊢
      split at h2
      · rename_i hw
        rw [if_pos hw]
        rcases h2 with h2 | ⟨_, h2⟩
        · exact Oper.wpIn_mono (fun a' w' hk => wpAny_wide hd fuel _ _ _ hk) (oper_wide (hd i o ho) h2)
        · exact absurd h2 noOut_letsOut
      · rename_i hw
        rw [if_neg hw]
        exact ⟨fun _ _ => trivial, wpAny_wide hd fuel _ _ _ h2⟩

theorem region_tail_wide {m : Nat} {P : Program} {id : Nat} {Q : Exit → Act → World → Prop} {a : Act} {w : World} {l : List Oper} (n : Nat) (hm : P.follows .mixedOrders = true) (hB : Region.lexTailB .any l.toArray n = true) (hd : l.all plainOp = true)
    (h : wpStill P l.toArray w.drew (fun a' => wpList P l.toArray (NoOut Q) (l.drop n) a' w.drew) (l.take n) a) : (Code.region id l.toArray true).wpIn Fence.wide m P Q a w := by
  simp only [Region.lexTailB, Bool.and_eq_true, decide_eq_true_eq] at hB
  obtain ⟨⟨⟨⟨hsel, hn⟩, hs⟩, hc⟩, hlex⟩ := hB
  have hn' : n < l.length := by simpa using hn
  have htl : (l.take n).length = n := by simp; omega
  have hdl : (l.drop n).length = l.toArray.size - n := by simp
  have inv0 : HeadInv .any l.toArray n (Array.replicate l.toArray.size false) :=
    ⟨by simp, fun j oj _ hl => (by rw [getD_replicate_false] at hl; cases hl), fun t _ ht => getD_in (by simpa using ht) (getD_replicate_false _ _)⟩
  have H := wpAnyL_lex (md := .any) (g := l.toArray.size - n) hsel hs hc hn (l.take n) 0 _ a (fun j hj => by
    have hj' : j < n := by rw [htl] at hj; exact hj
    simp [hj']) (by simpa using htl) inv0 (by rw [htl]; exact hlex) h
  refine wpIn_region_any hm ?_
  have := wpAny_of_head (Q' := NoOut Q) (g := l.toArray.size - n) (fun listed a' hL => by
    have := wpAny_of_seq (md := .any) (Q' := NoOut Q) (l.drop n) n listed a' w.drew (fun j => by simp [List.getElem?_drop]) (by rw [hdl]; exact hL.1) hL.2
    rwa [hdl] at this) _ _ _ H
  rw [htl, show n + (l.toArray.size - n) = l.toArray.size by omega] at this
  refine wpAny_wide (fun i o ho => ?_) _ _ _ _ this
  rw [List.all_eq_true] at hd
  exact hd o (List.mem_of_getElem? (by simpa using ho))

end Go.Proofs.Ytbfldhmpgealpaa
