/- Plain laws of a step of a plant: more supply, what is accounted for, what each node carries. No walk. Conditions: a right plant, levels and demand. -/
import Derived.Test.YtfefocgekmeahaaP1
namespace Go.Proofs.Ytfefocgekmeahaa

section
variable {ns : List Nd} {lv lv' dm : List Int} {sup sup' : Int} {s s' : St}
theorem wT_le (hd : dm.length = ns.length) (h : ∀ j, nth lv j ≤ nth lv' j) : ∀ r : Nat, r ≤ ns.length → ∀ j, nth (wT ns lv' dm r) j ≤ nth (wT ns lv dm r) j
  | 0, _ => fun _ => Int.le_refl _
  | r + 1, hr => by
    intro j
    have ih := wT_le hd h r (by omega)
    rw [wT_succ hd (by omega), wT_succ hd (by omega)]
    split
    · have h1 := ih (ns.length - (r + 1))
      have h2 := chP_le (ns := ns) (i := ((ns.length - (r + 1) : Nat) : Int)) ih ns.length
      have h3 := h (ns.length - (r + 1))
      omega
    · exact ih j
/-- with more, a node has no less, or all that it wants -/
theorem has_mono (hp : PlOk ns) (hl : LvOk ns lv) (hl' : LvOk ns lv') (hd : DmOk ns dm) (hs : sup ≤ sup') (hv : ∀ j, nth lv j ≤ nth lv' j)
    (h : StepOk ns sup lv dm s) (h' : StepOk ns sup' lv' dm s') : ∀ N k : Nat, k < N → k < ns.length →
      nth lv k + nth s.tk k ≤ nth lv' k + nth s'.tk k ∨ nth lv' k + nth s'.tk k = nth dm k + chP ns (wF ns lv' dm) k ns.length + (nd ns k).c
  | 0, k, hk, _ => by omega
  | N + 1, k, hk, hkn => by
    have hw := wT_le (lv := lv) (lv' := lv') hd.len hv ns.length (Nat.le_refl _)
    have hwk : nth (wF ns lv' dm) k ≤ nth (wF ns lv dm) k := hw k
    have e := h.tk k hkn
    have e' := h'.tk k hkn
    have w := wF_eq (lv := lv) hp hd.len hkn
    have w' := wF_eq (lv := lv') hp hd.len hkn
    have hpre := chP_le (ns := ns) (i := (nd ns k).p) (ws := wF ns lv' dm) (us := wF ns lv dm) hw k
    have hvk := hv k
    have b' := wF_bd hp hl' hd k
    have hx : max 0 (forK sup lv dm s.tk (nd ns k).p - chP ns (wF ns lv dm) (nd ns k).p k) ≤ max 0 (forK sup' lv' dm s'.tk (nd ns k).p - chP ns (wF ns lv' dm) (nd ns k).p k) ∨ nth s'.tk k = nth (wF ns lv' dm) k := by
      have hpk := hp.p k hkn
      by_cases hneg : (nd ns k).p < 0
      · left
        unfold forK
        rw [if_pos hneg, if_pos hneg]
        omega
      · obtain ⟨q, hq⟩ : ∃ q : Nat, (nd ns k).p = q := ⟨(nd ns k).p.toNat, by omega⟩
        have ih := has_mono hp hl hl' hd hs hv h h' N q (by omega) (by omega)
        rw [hq] at e' hpre hneg ⊢
        unfold forK at e' ⊢
        rw [if_neg (by omega)] at e'
        rw [if_neg (by omega), if_neg (by omega)]
        rw [show ((q : Int)).toNat = q by omega] at e' ⊢
        unfold hasK at e' ⊢
        rcases ih with ih | ih
        · left; omega
        · right
          have h1 : chP ns (wF ns lv' dm) q (k + 1) = chP ns (wF ns lv' dm) q k + nth (wF ns lv' dm) k := by
            conv => lhs; unfold chP
            rw [if_pos hq]
          have h2 := chP_mono (ns := ns) (i := (q : Int)) (fun k => (wF_bd hp hl' hd k).1) (k + 1) (ns.length - (k + 1))
          rw [show k + 1 + (ns.length - (k + 1)) = ns.length by omega] at h2
          have h3 := hp.c q (by omega)
          omega
    rcases hx with hx | hx <;> omega

theorem step_mono (hp : PlOk ns) (hl : LvOk ns lv) (hl' : LvOk ns lv') (hd : DmOk ns dm) (hs : sup ≤ sup') (hv : ∀ j, nth lv j ≤ nth lv' j)
    (h : StepOk ns sup lv dm s) (h' : StepOk ns sup' lv' dm s') : (∀ j, nth s.lv j ≤ nth s'.lv j) ∧ ∀ j, nth s'.lk j ≤ nth s.lk j := by
  have hw := wT_le (lv := lv) (lv' := lv') hd.len hv ns.length (Nat.le_refl _)
  have key := fun k hk => has_mono hp hl hl' hd hs hv h h' (k + 1) k (by omega) hk
  refine ⟨fun j => ?_, fun j => ?_⟩
  · rcases Nat.lt_or_ge j ns.length with hj | hj
    · have hc := (h.lvOk hp hl hd).r j hj
      have h1 := key j hj
      have h2 := chP_le (ns := ns) (i := (j : Int)) (ws := wF ns lv' dm) (us := wF ns lv dm) hw ns.length
      have h3 := hp.c j hj
      have h4 := (chP_bd (ns := ns) (i := (j : Int)) (wF_bd hp hl' hd) ns.length).1
      have e1 := h.lv j hj
      have e2 := h'.lv j hj
      unfold hasK at e1 e2
      omega
    · rw [nth_over (by rw [h.l1]; exact hj), nth_over (by rw [h'.l1]; exact hj)]; exact Int.le_refl _
  · rcases Nat.lt_or_ge j ns.length with hj | hj
    · have h1 := key j hj
      have h3 := hp.c j hj
      have h4 := (chP_bd (ns := ns) (i := (j : Int)) (wF_bd hp hl' hd) ns.length).1
      have e1 := h.lk j hj
      have e2 := h'.lk j hj
      omega
    · rw [nth_over (by rw [h'.l3]; exact hj), nth_over (by rw [h.l3]; exact hj)]; exact Int.le_refl _

/-- a sum of the first numbers -/
def sumN (f : Nat → Int) : Nat → Int
  | 0 => 0
  | k + 1 => sumN f k + f k
theorem sumN_congr {f g : Nat → Int} : ∀ n : Nat, (∀ k, k < n → f k = g k) → sumN f n = sumN g n
  | 0, _ => rfl
  | n + 1, h => by unfold sumN; rw [sumN_congr n (fun k hk => h k (by omega)), h n (by omega)]
theorem sumN_add (f g : Nat → Int) : ∀ n : Nat, sumN (fun k => f k + g k) n = sumN f n + sumN g n
  | 0 => rfl
  | n + 1 => by simp only [sumN, sumN_add f g n]; omega
theorem sumN_zero : ∀ n : Nat, sumN (fun _ => 0) n = 0
  | 0 => rfl
  | n + 1 => by simp only [sumN, sumN_zero n]; rfl
theorem sumN_one (q : Int) (x : Int) : ∀ n : Nat, sumN (fun i => if q = (i : Int) then x else 0) n = if 0 ≤ q ∧ q < n then x else 0
  | 0 => by rw [if_neg (by omega)]; rfl
  | n + 1 => by
    simp only [sumN, sumN_one q x n]
    by_cases h1 : q = (n : Int)
    · rw [if_neg (by omega), if_pos h1, if_pos (by omega)]; omega
    · rw [if_neg h1]
      by_cases h2 : 0 ≤ q ∧ q < n
      · rw [if_pos h2, if_pos (by omega)]; omega
      · rw [if_neg h2, if_neg (by omega)]; rfl
theorem sum_swap (ws : List Int) (n : Nat) : ∀ K : Nat, sumN (fun i => chP ns ws i K) n = sumN (fun k => if 0 ≤ (nd ns k).p ∧ (nd ns k).p < n then nth ws k else 0) K
  | 0 => sumN_zero n
  | K + 1 => by
    have ih := sum_swap ws n K
    have : sumN (fun i => chP ns ws i (K + 1)) n = sumN (fun i => chP ns ws i K + if (nd ns K).p = (i : Int) then nth ws K else 0) n := rfl
    rw [this, sumN_add, ih, sumN_one]
    rfl
theorem chP_sum (ws : List Int) (i : Int) : ∀ K : Nat, chP ns ws i K = sumN (fun k => if (nd ns k).p = i then nth ws k else 0) K
  | 0 => rfl
  | K + 1 => by simp only [chP, sumN, chP_sum ws i K]
/-- what is taken of H in order -/
theorem taken_sum {ws tk : List Int} {i : Int} {H : Int} (hw : ∀ k, 0 ≤ nth ws k) (hH : 0 ≤ H) : ∀ K : Nat, (∀ k, k < K → (nd ns k).p = i → nth tk k = min (nth ws k) (max 0 (H - chP ns ws i k))) →
    chP ns tk i K = min H (chP ns ws i K)
  | 0, _ => by simp [chP]; omega
  | K + 1, h => by
    have ih := taken_sum (i := i) hw hH K (fun k hk => h k (by omega))
    have h1 := hw K
    unfold chP
    split
    · rw [h K (by omega) (by assumption), ih]; omega
    · rw [ih]; omega

/-- of each node: what it had and took is what it gave, served and has -/
theorem node_sum (hp : PlOk ns) (hl : LvOk ns lv) (hd : DmOk ns dm) (h : StepOk ns sup lv dm s) {j : Nat} (hj : j < ns.length) :
    nth lv j + nth s.tk j = (nth dm j - nth s.lk j) + chP ns s.tk j ns.length + nth s.lv j := by
  have hT := taken_sum (ns := ns) (ws := wF ns lv dm) (tk := s.tk) (i := (j : Int)) (H := hasK lv dm s.tk j) (fun k => (wF_bd hp hl hd k).1) (by unfold hasK; omega) ns.length (fun k hk hpk => by
    have := h.tk k hk
    rw [hpk] at this
    unfold forK at this
    rw [if_neg (by omega)] at this
    exact this)
  have e1 := h.lv j hj
  have e2 := h.lk j hj
  have h4 := (chP_bd (ns := ns) (i := (j : Int)) (wF_bd hp hl hd) ns.length).1
  unfold hasK at *
  omega
/-- what the blower gives -/
def givenF (ns : List Nd) (tk : List Int) (n : Nat) : Int := sumN (fun k => if (nd ns k).p < 0 then nth tk k else 0) n
theorem given_le (hp : PlOk ns) (hl : LvOk ns lv) (hd : DmOk ns dm) (h : StepOk ns sup lv dm s) (hs : 0 ≤ sup) : givenF ns s.tk ns.length ≤ sup := by
  have hT := taken_sum (ns := ns) (ws := wF ns lv dm) (tk := s.tk) (i := -1) (H := sup) (fun k => (wF_bd hp hl hd k).1) hs ns.length (fun k hk hpk => by
    have := h.tk k hk
    rw [hpk] at this
    exact this)
  have : givenF ns s.tk ns.length = chP ns s.tk (-1) ns.length := by
    rw [chP_sum]
    refine sumN_congr _ (fun k hk => ?_)
    have := hp.p k hk
    by_cases h1 : (nd ns k).p < 0
    · rw [if_pos h1, if_pos (by omega)]
    · rw [if_neg h1, if_neg (by omega)]
  rw [this, hT]
  omega
theorem given_eq (hp : PlOk ns) (hl : LvOk ns lv) (hd : DmOk ns dm) (h : StepOk ns sup lv dm s) :
    givenF ns s.tk ns.length = sumN (nth s.lv) ns.length - sumN (nth lv) ns.length + sumN (nth dm) ns.length - sumN (nth s.lk) ns.length := by
  have h1 : sumN (fun j => nth lv j + nth s.tk j) ns.length = sumN (fun j => ((nth dm j - nth s.lk j) + chP ns s.tk j ns.length) + nth s.lv j) ns.length :=
    sumN_congr _ (fun j hj => node_sum hp hl hd h hj)
  rw [sumN_add, sumN_add, sumN_add, sum_swap] at h1
  have h2 : sumN (fun j => nth dm j - nth s.lk j) ns.length + sumN (nth s.lk) ns.length = sumN (nth dm) ns.length := by
    rw [← sumN_add]
    exact sumN_congr _ (fun j _ => by omega)
  have h3 : givenF ns s.tk ns.length + sumN (fun k => if 0 ≤ (nd ns k).p ∧ (nd ns k).p < (ns.length : Int) then nth s.tk k else 0) ns.length = sumN (nth s.tk) ns.length := by
    unfold givenF
    rw [← sumN_add]
    refine sumN_congr _ (fun k hk => ?_)
    have := hp.p k hk
    by_cases h1 : (nd ns k).p < 0
    · rw [if_pos h1, if_neg (by omega)]; omega
    · rw [if_neg h1, if_pos (by omega)]; omega
  have h4 : sumN (fun k => nth lv k) ns.length = sumN (nth lv) ns.length := rfl
  have h5 : sumN (fun k => nth s.tk k) ns.length = sumN (nth s.tk) ns.length := rfl
  have h6 : sumN (fun k => nth s.lv k) ns.length = sumN (nth s.lv) ns.length := rfl
  omega
end
end Go.Proofs.Ytfefocgekmeahaa
