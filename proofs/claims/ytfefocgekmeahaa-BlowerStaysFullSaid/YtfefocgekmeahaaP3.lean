/- Plain laws of what the nodes of a plant carry for a part of a demand, and of the bottleneck. No walk. Conditions: a right plant and demand. -/
import Derived.Test.YtfefocgekmeahaaP2
namespace Go.Proofs.Ytfefocgekmeahaa

/-- k thousandths of what node i demands -/
def scl (dm : List Int) (k : Int) (i : Nat) : Int := nth dm i * k / 1000
theorem scl_bd {ns : List Nd} {dm : List Int} (hd : DmOk ns dm) {k : Int} (h0 : 0 ≤ k) (h1 : k ≤ 1000) (i : Nat) : 0 ≤ scl dm k i ∧ scl dm k i ≤ 1000000000 := by
  have h := hd.all i
  unfold scl
  have h2 : 0 ≤ nth dm i * k := Int.mul_nonneg h.1 h0
  have h3 : nth dm i * k ≤ 1000000000 * 1000 := Int.mul_le_mul h.2 h1 h0 (by decide)
  omega
theorem scl_mono {ns : List Nd} {dm : List Int} (hd : DmOk ns dm) {k k' : Int} (h : k ≤ k') (i : Nat) : scl dm k i ≤ scl dm k' i := by
  unfold scl
  exact Int.ediv_le_ediv (by decide) (Int.mul_le_mul_of_nonneg_left h (hd.all i).1)
theorem scl_full (dm : List Int) (i : Nat) : scl dm 1000 i = nth dm i := by unfold scl; omega

/-- what the nodes carry, behind r nodes from the last one on -/
def cT (ns : List Nd) (dm : List Int) (k : Int) : Nat → List Int
  | 0 => zeros ns.length
  | r + 1 => (cT ns dm k r).set (ns.length - (r + 1)) (scl dm k (ns.length - (r + 1)) + chP ns (cT ns dm k r) ((ns.length - (r + 1) : Nat) : Int) ns.length)
def cF (ns : List Nd) (dm : List Int) (k : Int) : List Int := cT ns dm k ns.length

section
variable {ns : List Nd} {dm lv : List Int} {k k' : Int} {sup : Int}
theorem cT_len (r : Nat) : (cT ns dm k r).length = ns.length := by
  induction r with
  | zero => exact zeros_len _
  | succ r ih => simp [cT, ih]
theorem cT_succ {r : Nat} (hr : r < ns.length) (j : Nat) : nth (cT ns dm k (r + 1)) j = if j = ns.length - (r + 1) then
      scl dm k (ns.length - (r + 1)) + chP ns (cT ns dm k r) ((ns.length - (r + 1) : Nat) : Int) ns.length else nth (cT ns dm k r) j := by
  conv => lhs; unfold cT
  rw [nth_set (by rw [cT_len]; omega)]
theorem cT_hi {j r : Nat} (hj : ns.length ≤ j + r) : ∀ d : Nat, r + d ≤ ns.length → nth (cT ns dm k (r + d)) j = nth (cT ns dm k r) j
  | 0, _ => rfl
  | d + 1, h => by
    show nth (cT ns dm k ((r + d) + 1)) j = _
    rw [cT_succ (by omega), if_neg (by omega)]
    exact cT_hi hj d (by omega)
theorem cF_eq (hp : PlOk ns) {i : Nat} (hi : i < ns.length) : nth (cF ns dm k) i = scl dm k i + chP ns (cF ns dm k) i ns.length := by
  obtain ⟨r, hr⟩ : ∃ r, r = ns.length - (i + 1) := ⟨_, rfl⟩
  have e : ns.length = (r + 1) + i := by omega
  have h1 : nth (cF ns dm k) i = nth (cT ns dm k (r + 1)) i := by
    unfold cF
    have := cT_hi (ns := ns) (dm := dm) (k := k) (j := i) (r := r + 1) (by omega) i (by omega)
    rw [← e] at this
    exact this
  have e2 : ns.length - (r + 1) = i := by omega
  rw [h1, cT_succ (by omega), e2, if_pos rfl]
  rw [chP_congr (ws := cT ns dm k r) (us := cF ns dm k) ns.length]
  intro j hj hpj
  have h2 := hp.p j hj
  have := cT_hi (ns := ns) (dm := dm) (k := k) (j := j) (r := r) (by omega) (i + 1) (by omega)
  rw [show r + (i + 1) = ns.length by omega] at this
  exact this.symm

/-- a bound of what the last r nodes carry together -/
def bnd : Nat → Int
  | 0 => 0
  | r + 1 => bnd r + (1000000000 + bnd r)
theorem bnd_nn : ∀ r, 0 ≤ bnd r
  | 0 => Int.le_refl _
  | r + 1 => by have := bnd_nn r; unfold bnd; omega
theorem bnd_mono (r : Nat) : ∀ d, bnd r ≤ bnd (r + d)
  | 0 => Int.le_refl _
  | d + 1 => by
    have h := bnd_mono r d
    have h0 := bnd_nn (r + d)
    show _ ≤ bnd (r + d) + (1000000000 + bnd (r + d))
    omega
theorem bnd_30 {r : Nat} (h : r ≤ 30) : bnd r ≤ 1073741823000000000 := by
  have := bnd_mono r (30 - r)
  rw [show r + (30 - r) = 30 by omega] at this
  have e : bnd 30 = 1073741823000000000 := by decide
  omega
theorem chP_back (ws : List Int) (i : Int) (r : Nat) (hr : r ≤ ns.length) (h0 : ∀ j, j + r < ns.length → (nd ns j).p ≠ i) : chP ns ws i ns.length = chQ ns ws i r := by
  rw [← chQ_P r hr, chP_none (fun q hq => h0 q (by omega))]
  omega
theorem chQ_bnd {ws : List Int} {i : Int} : ∀ r : Nat, r ≤ ns.length → (∀ q, q < r → 0 ≤ nth ws (ns.length - (q + 1)) ∧ nth ws (ns.length - (q + 1)) ≤ 1000000000 + bnd q) → 0 ≤ chQ ns ws i r ∧ chQ ns ws i r ≤ bnd r
  | 0, _, _ => ⟨Int.le_refl _, Int.le_refl _⟩
  | r + 1, hr, h => by
    have ih := chQ_bnd (i := i) r (by omega) (fun q hq => h q (by omega))
    have h1 := h r (by omega)
    have h2 := bnd_nn r
    unfold chQ bnd
    split <;> omega
theorem cF_bnd (hp : PlOk ns) (hd : DmOk ns dm) (h0 : 0 ≤ k) (h1 : k ≤ 1000) : ∀ N r : Nat, r < N → r < ns.length → 0 ≤ nth (cF ns dm k) (ns.length - (r + 1)) ∧ nth (cF ns dm k) (ns.length - (r + 1)) ≤ 1000000000 + bnd r
  | 0, r, hr, _ => by omega
  | N + 1, r, hr, hrn => by
    rw [cF_eq hp (by omega)]
    have e : chP ns (cF ns dm k) ((ns.length - (r + 1) : Nat) : Int) ns.length = chQ ns (cF ns dm k) ((ns.length - (r + 1) : Nat) : Int) r :=
      chP_back _ _ r (by omega) (fun j hj => by have := hp.p j (by omega); omega)
    rw [e]
    have h2 := chQ_bnd (ns := ns) (ws := cF ns dm k) (i := ((ns.length - (r + 1) : Nat) : Int)) r (by omega) (fun q hq => cF_bnd hp hd h0 h1 N q (by omega) (by omega))
    have h3 := scl_bd hd h0 h1 (ns.length - (r + 1))
    omega
theorem cQ_bd (hp : PlOk ns) (hd : DmOk ns dm) (h0 : 0 ≤ k) (h1 : k ≤ 1000) (i : Int) {r : Nat} (hr : r ≤ ns.length) : 0 ≤ chQ ns (cF ns dm k) i r ∧ chQ ns (cF ns dm k) i r ≤ 1073741823000000000 := by
  have h := chQ_bnd (ns := ns) (ws := cF ns dm k) (i := i) r hr (fun q hq => cF_bnd hp hd h0 h1 (q + 1) q (by omega) (by omega))
  have := bnd_30 (r := r) (by have := hp.len; omega)
  omega
theorem cF_bd (hp : PlOk ns) (hd : DmOk ns dm) (h0 : 0 ≤ k) (h1 : k ≤ 1000) (j : Nat) : 0 ≤ nth (cF ns dm k) j ∧ nth (cF ns dm k) j ≤ 1073741824000000000 := by
  rcases Nat.lt_or_ge j ns.length with hj | hj
  · have h := cF_bnd hp hd h0 h1 (ns.length - (j + 1) + 1) (ns.length - (j + 1)) (by omega) (by omega)
    rw [show ns.length - (ns.length - (j + 1) + 1) = j by omega] at h
    have := bnd_30 (r := ns.length - (j + 1)) (by have := hp.len; omega)
    omega
  · rw [nth_over (by unfold cF; rw [cT_len]; exact hj)]; omega

/-- what a loop that carries holds behind the last r nodes -/
structure CInv (ns : List Nd) (dm : List Int) (k : Int) (us : List Int) (r : Nat) : Prop where
  hi : ∀ j, ns.length ≤ j + r → j < ns.length → nth us j = nth (cF ns dm k) j
  lo : ∀ j, j + r < ns.length → nth us j = chQ ns (cF ns dm k) j r
theorem CInv.start {us : List Int} (h : ∀ j, nth us j = 0) : CInv ns dm k us 0 := ⟨fun j h1 h2 => by omega, fun j _ => h j⟩
theorem CInv.val (hp : PlOk ns) {us : List Int} {i : Nat} (hi : i < ns.length) (h : CInv ns dm k us (ns.length - (i + 1))) : nth us i + scl dm k i = nth (cF ns dm k) i := by
  rw [h.lo i (by omega), cF_eq hp hi, chP_back (ns := ns) (cF ns dm k) i (ns.length - (i + 1)) (by omega) (fun j hj => by have := hp.p j (by omega); omega)]
  omega
theorem CInv.root {us : List Int} {i : Nat} (hl : ns.length ≤ us.length) (hi : i < ns.length) (h : CInv ns dm k us (ns.length - (i + 1))) (hq : (nd ns i).p < 0) : CInv ns dm k (us.set i (nth (cF ns dm k) i)) (ns.length - i) := by
  obtain ⟨r, hr⟩ : ∃ r, r = ns.length - (i + 1) := ⟨_, rfl⟩
  have e1 : ns.length - i = r + 1 := by omega
  have e2 : ns.length - (r + 1) = i := by omega
  rw [← hr] at h
  rw [e1]
  refine ⟨fun j h1 h2 => ?_, fun j h1 => ?_⟩
  · rw [nth_set (by omega)]
    split
    · rename_i e; rw [e]
    · exact h.hi j (by omega) h2
  · rw [nth_set (by omega), if_neg (by omega), h.lo j (by omega)]
    conv => rhs; unfold chQ
    rw [e2, if_neg (by omega)]
    omega
theorem CInv.child (hp : PlOk ns) {us : List Int} {i q : Nat} (hl : ns.length ≤ us.length) (hi : i < ns.length) (h : CInv ns dm k us (ns.length - (i + 1))) (hq : (nd ns i).p = q) :
    CInv ns dm k ((us.set i (nth (cF ns dm k) i)).set q (nth us q + nth (cF ns dm k) i)) (ns.length - i) := by
  obtain ⟨r, hr⟩ : ∃ r, r = ns.length - (i + 1) := ⟨_, rfl⟩
  have hqi := (hp.p i hi).2
  have e1 : ns.length - i = r + 1 := by omega
  have e2 : ns.length - (r + 1) = i := by omega
  rw [← hr] at h
  rw [e1]
  refine ⟨fun j h1 h2 => ?_, fun j h1 => ?_⟩
  · rw [nth_set (by simp; omega), nth_set (by omega), if_neg (by omega)]
    split
    · rename_i e; rw [e]
    · exact h.hi j (by omega) h2
  · rw [nth_set (by simp; omega), nth_set (by omega)]
    have hu : chQ ns (cF ns dm k) j (r + 1) = chQ ns (cF ns dm k) j r + if (nd ns i).p = j then nth (cF ns dm k) i else 0 := by
      conv => lhs; unfold chQ
      rw [e2]
    rw [hu, hq]
    by_cases hj : j = q
    · subst hj
      rw [if_pos rfl, if_pos rfl, h.lo j (by omega)]
    · rw [if_neg hj, if_neg (by omega), if_neg (by omega), h.lo j (by omega)]
      omega
/-- what the roots carry together -/
theorem all_root {i : Nat} (hi : i < ns.length) (hq : (nd ns i).p = -1) (ws : List Int) : chQ ns ws (-1) (ns.length - i) = chQ ns ws (-1) (ns.length - (i + 1)) + nth ws i := by
  obtain ⟨r, hr⟩ : ∃ r, r = ns.length - (i + 1) := ⟨_, rfl⟩
  have e1 : ns.length - i = r + 1 := by omega
  have e2 : ns.length - (r + 1) = i := by omega
  rw [← hr, e1]
  conv => lhs; unfold chQ
  rw [e2, if_pos hq]
theorem all_child {i : Nat} (hi : i < ns.length) (hq : (nd ns i).p ≠ -1) (ws : List Int) : chQ ns ws (-1) (ns.length - i) = chQ ns ws (-1) (ns.length - (i + 1)) := by
  obtain ⟨r, hr⟩ : ∃ r, r = ns.length - (i + 1) := ⟨_, rfl⟩
  have e1 : ns.length - i = r + 1 := by omega
  have e2 : ns.length - (r + 1) = i := by omega
  rw [← hr, e1]
  conv => lhs; unfold chQ
  rw [e2, if_neg hq]
  omega

def limB (ns : List Nd) (cs : List Int) (i : Nat) (_ : Unit) : (Int × Bool) ⊕ Unit := if (nd ns i).m < nth cs i then .inl (i, true) else .inr ()
def limS (ns : List Nd) (sup : Int) (cs : List Int) (all : Int) (i : Nat) : Int × Bool := scan ns.length (limB ns cs) (fun _ => if sup < all then (-1, true) else (0, false)) i ()
/-- the bottleneck for k thousandths of a demand -/
def btF (ns : List Nd) (sup : Int) (dm : List Int) (k : Int) : Int × Bool := limS ns sup (cF ns dm k) (chQ ns (cF ns dm k) (-1) ns.length) 0
theorem limS_hit {cs : List Int} {all : Int} {i : Nat} (h : i < ns.length) (h1 : (nd ns i).m < nth cs i) : limS ns sup cs all i = ((i : Int), true) := scan_inl h (by unfold limB; rw [if_pos h1])
theorem limS_next {cs : List Int} {all : Int} {i : Nat} (h : i < ns.length) (h1 : ¬ (nd ns i).m < nth cs i) : limS ns sup cs all i = limS ns sup cs all (i + 1) := scan_inr h (by unfold limB; rw [if_neg h1])
theorem limS_over {cs : List Int} {all : Int} {i : Nat} (h : ns.length ≤ i) (h1 : sup < all) : limS ns sup cs all i = (-1, true) := (scan_ge h).trans (if_pos h1)
theorem limS_ok {cs : List Int} {all : Int} {i : Nat} (h : ns.length ≤ i) (h1 : ¬ sup < all) : limS ns sup cs all i = (0, false) := (scan_ge h).trans (if_neg h1)
theorem limS_congr {cs us : List Int} {all : Int} (h : ∀ j, j < ns.length → nth cs j = nth us j) : ∀ r i : Nat, r = ns.length - i → limS ns sup cs all i = limS ns sup us all i
  | 0, i, hr => by
    by_cases h1 : sup < all
    · rw [limS_over (by omega) h1, limS_over (by omega) h1]
    · rw [limS_ok (by omega) h1, limS_ok (by omega) h1]
  | r + 1, i, hr => by
    by_cases h1 : (nd ns i).m < nth cs i
    · rw [limS_hit (by omega) h1, limS_hit (by omega) (by rw [← h i (by omega)]; exact h1)]
    · rw [limS_next (i := i) (by omega) h1, limS_next (i := i) (by omega) (by rw [← h i (by omega)]; exact h1)]
      exact limS_congr h r (i + 1) (by omega)
theorem limS_iff {cs : List Int} {all : Int} : ∀ r i : Nat, r = ns.length - i → ((limS ns sup cs all i).2 = true ↔ (∃ j, i ≤ j ∧ j < ns.length ∧ (nd ns j).m < nth cs j) ∨ sup < all)
  | 0, i, hr => by
    by_cases h1 : sup < all
    · rw [limS_over (by omega) h1]; simp [h1]
    · rw [limS_ok (by omega) h1]
      simp only [h1, or_false, Bool.false_eq_true, false_iff, not_exists]
      intro j hj
      omega
  | r + 1, i, hr => by
    by_cases h1 : (nd ns i).m < nth cs i
    · rw [limS_hit (by omega) h1]
      simp only [true_iff]
      exact .inl ⟨i, Nat.le_refl _, by omega, h1⟩
    · rw [limS_next (by omega) h1, limS_iff r (i + 1) (by omega)]
      constructor
      · rintro (⟨j, h2, h3, h4⟩ | h2)
        · exact .inl ⟨j, by omega, h3, h4⟩
        · exact .inr h2
      · rintro (⟨j, h2, h3, h4⟩ | h2)
        · refine .inl ⟨j, ?_, h3, h4⟩
          rcases Nat.lt_or_ge i j with h5 | h5
          · exact h5
          · obtain rfl : i = j := by omega
            exact absurd h4 h1
        · exact .inr h2
theorem cF_mono (hp : PlOk ns) (hd : DmOk ns dm) (h : k ≤ k') : ∀ r : Nat, r ≤ ns.length → ∀ j, nth (cT ns dm k r) j ≤ nth (cT ns dm k' r) j
  | 0, _ => fun _ => Int.le_refl _
  | r + 1, hr => by
    intro j
    have ih := cF_mono hp hd h r (by omega)
    rw [cT_succ (by omega), cT_succ (by omega)]
    split
    · have h2 := chP_le (ns := ns) (i := ((ns.length - (r + 1) : Nat) : Int)) ih ns.length
      have h3 := scl_mono hd h (ns.length - (r + 1))
      omega
    · exact ih j
theorem btF_mono (hp : PlOk ns) (hd : DmOk ns dm) (h : k ≤ k') (hb : (btF ns sup dm k).2 = true) : (btF ns sup dm k').2 = true := by
  have hc : ∀ j, nth (cF ns dm k) j ≤ nth (cF ns dm k') j := cF_mono hp hd h ns.length (Nat.le_refl _)
  have e : ∀ ws : List Int, chQ ns ws (-1) ns.length = chP ns ws (-1) ns.length := fun ws => by
    have := chQ_P (ns := ns) (ws := ws) (i := -1) ns.length (Nat.le_refl _)
    rw [Nat.sub_self] at this
    simp only [chP] at this
    omega
  unfold btF at *
  rw [limS_iff ns.length 0 (by omega)] at *
  rcases hb with ⟨j, h1, h2, h3⟩ | hb
  · exact .inl ⟨j, h1, h2, by have := hc j; omega⟩
  · right
    rw [e] at *
    have := chP_le (ns := ns) (i := -1) hc ns.length
    omega

/-- a filled plant without a bottleneck stays full -/
theorem stays_full (hp : PlOk ns) (hl : LvOk ns lv) (hfull : ∀ j, j < ns.length → nth lv j = (nd ns j).c) (hd : DmOk ns dm) (hb : (btF ns sup dm 1000).2 = false) {s : St} (h : StepOk ns sup lv dm s) :
    (∀ j, j < ns.length → nth s.lv j = nth lv j) ∧ ∀ j, nth s.lk j = 0 := by
  have e0 : chQ ns (cF ns dm 1000) (-1) ns.length = chP ns (cF ns dm 1000) (-1) ns.length := by
    have := chQ_P (ns := ns) (ws := cF ns dm 1000) (i := -1) ns.length (Nat.le_refl _)
    rw [Nat.sub_self] at this
    simp only [chP] at this
    omega
  have hno : ¬ ((∃ j, 0 ≤ j ∧ j < ns.length ∧ (nd ns j).m < nth (cF ns dm 1000) j) ∨ sup < chQ ns (cF ns dm 1000) (-1) ns.length) := by
    intro hc
    have := (limS_iff (sup := sup) (cs := cF ns dm 1000) ns.length 0 (by omega)).2 hc
    unfold btF at hb
    rw [hb] at this
    cases this
  have hm : ∀ j, j < ns.length → nth (cF ns dm 1000) j ≤ (nd ns j).m := fun j hj => by
    rcases Int.lt_or_le (nd ns j).m (nth (cF ns dm 1000) j) with h1 | h1
    · exact absurd (.inl ⟨j, by omega, hj, h1⟩) hno
    · exact h1
  have hsup : chP ns (cF ns dm 1000) (-1) ns.length ≤ sup := by
    rw [← e0]
    rcases Int.lt_or_le sup (chQ ns (cF ns dm 1000) (-1) ns.length) with h1 | h1
    · exact absurd (.inr h1) hno
    · exact h1
  have hW : ∀ N j, ns.length - j ≤ N → j < ns.length → nth (wF ns lv dm) j = nth (cF ns dm 1000) j := by
    intro N
    induction N with
    | zero => intro j h1 h2; omega
    | succ N ih =>
      intro j h1 h2
      have h3 := hm j h2
      have e1 := cF_eq (dm := dm) (k := 1000) hp h2
      rw [scl_full] at e1
      have e2 : chP ns (wF ns lv dm) j ns.length = chP ns (cF ns dm 1000) j ns.length := chP_congr _ (fun q hq hpq => by
        have := hp.p q hq
        exact ih q (by omega) hq)
      rw [wF_eq hp hd.len h2, e2, hfull j h2]
      omega
  have hW' : ∀ j, j < ns.length → nth (wF ns lv dm) j = nth (cF ns dm 1000) j := fun j hj => hW (ns.length - j) j (Nat.le_refl _) hj
  have hP : ∀ i K, K ≤ ns.length → chP ns (wF ns lv dm) i K = chP ns (cF ns dm 1000) i K := fun i K hK => chP_congr _ (fun q hq _ => hW' q (by omega))
  have hpos := fun j => (wF_bd hp hl hd j).1
  have htk : ∀ N j, j < N → j < ns.length → nth s.tk j = nth (wF ns lv dm) j := by
    intro N
    induction N with
    | zero => intro j h1 h2; omega
    | succ N ih =>
      intro j h1 h2
      have hpj := hp.p j h2
      have e1 := h.tk j h2
      obtain ⟨q, hq⟩ : ∃ q, (nd ns j).p = q := ⟨_, rfl⟩
      have h3 : chP ns (wF ns lv dm) q (j + 1) = chP ns (wF ns lv dm) q j + nth (wF ns lv dm) j := by
        conv => lhs; unfold chP
        rw [if_pos hq]
      have h4 := chP_mono (ns := ns) (i := q) hpos (j + 1) (ns.length - (j + 1))
      rw [show j + 1 + (ns.length - (j + 1)) = ns.length by omega] at h4
      rw [hq] at e1 hpj
      unfold forK at e1
      by_cases hneg : q < 0
      · rw [if_pos hneg] at e1
        have eq1 : q = -1 := by omega
        rw [eq1] at h3 h4 e1
        have h5 := hP (-1) ns.length (Nat.le_refl _)
        omega
      · rw [if_neg hneg] at e1
        obtain ⟨p, rfl⟩ : ∃ p : Nat, q = p := ⟨q.toNat, by omega⟩
        rw [show ((p : Int)).toNat = p by omega] at e1
        have h6 := ih p (by omega) (by omega)
        have h7 := cF_eq (dm := dm) (k := 1000) hp (i := p) (by omega)
        rw [scl_full] at h7
        have h8 := hW' p (by omega)
        have h9 := hP (p : Int) ns.length (Nat.le_refl _)
        have h10 := hfull p (by omega)
        have h11 := hp.c p (by omega)
        unfold hasK at e1
        omega
  refine ⟨fun j hj => ?_, fun j => ?_⟩
  · have h1 := htk (j + 1) j (by omega) hj
    have h7 := cF_eq (dm := dm) (k := 1000) hp hj
    rw [scl_full] at h7
    have h8 := hW' j hj
    have h9 := hP (j : Int) ns.length (Nat.le_refl _)
    have h10 := hfull j hj
    have h11 := hp.c j hj
    have h12 := (chP_bd (ns := ns) (i := (j : Int)) (wF_bd hp hl hd) ns.length).1
    rw [h.lv j hj]
    unfold hasK
    omega
  · rcases Nat.lt_or_ge j ns.length with hj | hj
    · have h1 := htk (j + 1) j (by omega) hj
      have h7 := cF_eq (dm := dm) (k := 1000) hp hj
      rw [scl_full] at h7
      have h8 := hW' j hj
      have h9 := hP (j : Int) ns.length (Nat.le_refl _)
      have h10 := hfull j hj
      have h11 := hp.c j hj
      have h12 := (chP_bd (ns := ns) (i := (j : Int)) (wF_bd hp hl hd) ns.length).1
      rw [h.lk j hj]
      omega
    · rw [nth_over (by rw [h.l3]; exact hj)]
end
end Go.Proofs.Ytfefocgekmeahaa
