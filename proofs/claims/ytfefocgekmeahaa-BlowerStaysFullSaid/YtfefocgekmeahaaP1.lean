/- Plain laws of a step of a plant: bounds, what the model's loops hold. No walk. Conditions: a right plant, levels and demand. -/
import Derived.Test.YtfefocgekmeahaaP0
namespace Go.Proofs.Ytfefocgekmeahaa

section
variable {ns : List Nd} {lv dm ws : List Int} {sup : Int}
theorem chP_none {i : Int} {K : Nat} (h : ∀ k, k < K → (nd ns k).p ≠ i) : chP ns ws i K = 0 := by
  induction K with
  | zero => rfl
  | succ K ih => unfold chP; rw [ih (fun k hk => h k (by omega)), if_neg (h K (by omega))]; rfl
theorem gv_none {i : Int} {s : List Int × Int} {K : Nat} (h : ∀ k, k < K → (nd ns k).p ≠ i) : gv ns ws i s K = s := by
  induction K with
  | zero => rfl
  | succ K ih => unfold gv; rw [if_neg (h K (by omega)), ih (fun k hk => h k (by omega))]
theorem gv_skip (hp : PlOk ns) {i : Nat} (hi : i < ns.length) (s : List Int × Int) : gv ns ws i s (i + 1) = s := gv_none (fun k hk => by have := hp.p k (by omega); omega)
theorem gv_yes {i : Int} {s : List Int × Int} {k : Nat} (h : (nd ns k).p = i) : gv ns ws i s (k + 1) = ((gv ns ws i s k).1.set k (min (nth ws k) (gv ns ws i s k).2), (gv ns ws i s k).2 - min (nth ws k) (gv ns ws i s k).2) := by
  conv => lhs; unfold gv
  rw [if_pos h]
theorem gv_no {i : Int} {s : List Int × Int} {k : Nat} (h : (nd ns k).p ≠ i) : gv ns ws i s (k + 1) = gv ns ws i s k := by
  conv => lhs; unfold gv
  rw [if_neg h]

/-- the sum over the last r nodes that are children of node i -/
def chQ (ns : List Nd) (ws : List Int) (i : Int) : Nat → Int
  | 0 => 0
  | r + 1 => chQ ns ws i r + if (nd ns (ns.length - (r + 1))).p = i then nth ws (ns.length - (r + 1)) else 0
theorem chQ_P {i : Int} : ∀ r : Nat, r ≤ ns.length → chP ns ws i (ns.length - r) + chQ ns ws i r = chP ns ws i ns.length
  | 0, _ => by simp [chQ]
  | r + 1, h => by
    have ih := chQ_P (i := i) r (by omega)
    obtain ⟨k, hk⟩ : ∃ k, k = ns.length - (r + 1) := ⟨_, rfl⟩
    have e : ns.length - r = k + 1 := by omega
    rw [e] at ih
    unfold chQ
    rw [← hk, ← ih]
    conv => rhs; lhs; unfold chP
    omega
theorem chQ_bd {i : Int} (h : ∀ k, 0 ≤ nth ws k ∧ nth ws k ≤ 1000000000) : ∀ r : Nat, 0 ≤ chQ ns ws i r ∧ chQ ns ws i r ≤ r * 1000000000
  | 0 => ⟨Int.le_refl _, by simp [chQ]⟩
  | r + 1 => by
    have := chQ_bd (i := i) h r
    have h2 := h (ns.length - (r + 1))
    unfold chQ
    split <;> omega
/-- what the model's wants are behind the last r nodes -/
structure WInv (ns : List Nd) (lv dm us : List Int) (r : Nat) : Prop where
  len : us.length = ns.length
  hi : ∀ j, ns.length ≤ j + r → j < ns.length → nth us j = nth (wF ns lv dm) j
  lo : ∀ j, j + r < ns.length → nth us j = chQ ns (wF ns lv dm) j r
theorem WInv.start : WInv ns lv dm (zeros ns.length) 0 := ⟨zeros_len _, fun j h1 h2 => by omega, fun j _ => nth_zeros _ _⟩
theorem WInv.val (hp : PlOk ns) (hd : dm.length = ns.length) {us : List Int} {i : Nat} (hi : i < ns.length) (h : WInv ns lv dm us (ns.length - (i + 1))) :
    min (nth us i + (nth dm i + (nd ns i).c - nth lv i)) (nd ns i).m = nth (wF ns lv dm) i := by
  rw [h.lo i (by omega), wF_eq hp hd hi]
  have h1 := chQ_P (ns := ns) (ws := wF ns lv dm) (i := (i : Int)) (ns.length - (i + 1)) (by omega)
  rw [show ns.length - (ns.length - (i + 1)) = i + 1 by omega, chP_none (fun k hk => by have := hp.p k (by omega); omega)] at h1
  omega
theorem WInv.root {us : List Int} {i : Nat} (hi : i < ns.length) (h : WInv ns lv dm us (ns.length - (i + 1))) (hq : (nd ns i).p < 0) :
    WInv ns lv dm (us.set i (nth (wF ns lv dm) i)) (ns.length - i) := by
  obtain ⟨r, hr⟩ : ∃ r, r = ns.length - (i + 1) := ⟨_, rfl⟩
  have e1 : ns.length - i = r + 1 := by omega
  have e2 : ns.length - (r + 1) = i := by omega
  rw [← hr] at h
  rw [e1]
  refine ⟨by simp [h.len], fun j h1 h2 => ?_, fun j h1 => ?_⟩
  · rw [nth_set (by rw [h.len]; exact hi)]
    split
    · rename_i e; rw [e]
    · exact h.hi j (by omega) h2
  · rw [nth_set (by rw [h.len]; exact hi), if_neg (by omega), h.lo j (by omega)]
    conv => rhs; unfold chQ
    rw [e2, if_neg (by omega)]
    omega
theorem WInv.child (hp : PlOk ns) {us : List Int} {i q : Nat} (hi : i < ns.length) (h : WInv ns lv dm us (ns.length - (i + 1))) (hq : (nd ns i).p = q) :
    WInv ns lv dm ((us.set i (nth (wF ns lv dm) i)).set q (nth us q + nth (wF ns lv dm) i)) (ns.length - i) := by
  obtain ⟨r, hr⟩ : ∃ r, r = ns.length - (i + 1) := ⟨_, rfl⟩
  have hqi := (hp.p i hi).2
  have e1 : ns.length - i = r + 1 := by omega
  have e2 : ns.length - (r + 1) = i := by omega
  rw [← hr] at h
  rw [e1]
  refine ⟨by simp [h.len], fun j h1 h2 => ?_, fun j h1 => ?_⟩
  · rw [nth_set (by simp [h.len]; omega), nth_set (by rw [h.len]; exact hi), if_neg (by omega)]
    split
    · rename_i e; rw [e]
    · exact h.hi j (by omega) h2
  · rw [nth_set (by simp [h.len]; omega), nth_set (by rw [h.len]; exact hi)]
    have hu : chQ ns (wF ns lv dm) j (r + 1) = chQ ns (wF ns lv dm) j r + if (nd ns i).p = j then nth (wF ns lv dm) i else 0 := by
      conv => lhs; unfold chQ
      rw [e2]
    rw [hu, hq]
    by_cases hj : j = q
    · subst hj
      rw [if_pos rfl, if_pos rfl, h.lo j (by omega)]
    · rw [if_neg hj, if_neg (by omega), if_neg (by omega), h.lo j (by omega)]
      omega

/-- the state behind a right step -/
structure StepOk (ns : List Nd) (sup : Int) (l0 dm : List Int) (s : St) : Prop where
  tk : ∀ j, j < ns.length → nth s.tk j = min (nth (wF ns l0 dm) j) (max 0 (forK sup l0 dm s.tk (nd ns j).p - chP ns (wF ns l0 dm) (nd ns j).p j))
  lv : ∀ j, j < ns.length → nth s.lv j = max 0 (hasK l0 dm s.tk j - chP ns (wF ns l0 dm) j ns.length)
  lk : ∀ j, j < ns.length → nth s.lk j = max 0 (nth dm j - nth l0 j - nth s.tk j)
  l1 : s.lv.length = ns.length
  l2 : s.tk.length = ns.length
  l3 : s.lk.length = ns.length
theorem stepOk (hp : PlOk ns) (hl : LvOk ns lv) (hd : DmOk ns dm) (hs : 0 ≤ sup) : StepOk ns sup lv dm (stepF ns sup lv dm) := by
  have h := stInv (sup := sup) hp hl hs (fun k => (wF_bd hp hl hd k).1) (fun k => (hd.all k).1) ns.length (Nat.le_refl _)
  obtain ⟨l1, l2, l3⟩ := stT_len (sup := sup) (dm := dm) (ws := wF ns lv dm) hl.len ns.length
  exact ⟨fun j hj => h.tk j hj (by have := hp.p j hj; omega), h.lv1, h.lk1, l1, l2, l3⟩
variable {s : St}
theorem StepOk.tk_bd (h : StepOk ns sup lv dm s) (hp : PlOk ns) (hl : LvOk ns lv) (hd : DmOk ns dm) (j : Nat) : 0 ≤ nth s.tk j ∧ nth s.tk j ≤ nth (wF ns lv dm) j := by
  have := wF_bd hp hl hd j
  rcases Nat.lt_or_ge j ns.length with hj | hj
  · rw [h.tk j hj]; omega
  · rw [nth_over (by rw [h.l2]; exact hj)]; omega
theorem StepOk.lvOk (h : StepOk ns sup lv dm s) (hp : PlOk ns) (hl : LvOk ns lv) (hd : DmOk ns dm) : LvOk ns s.lv := by
  refine ⟨h.l1, fun j hj => ?_⟩
  have h1 := h.tk_bd hp hl hd j
  have h2 := wF_eq (lv := lv) hp hd.len hj
  have h3 := hp.c j hj
  rw [h.lv j hj]
  unfold hasK
  have h4 := (chP_bd (ns := ns) (ws := wF ns lv dm) (i := (j : Int)) (wF_bd hp hl hd) ns.length).1
  omega
theorem StepOk.lk_bd (h : StepOk ns sup lv dm s) (hp : PlOk ns) (hl : LvOk ns lv) (hd : DmOk ns dm) (j : Nat) : 0 ≤ nth s.lk j ∧ nth s.lk j ≤ nth dm j := by
  have h2 := hd.all j
  rcases Nat.lt_or_ge j ns.length with hj | hj
  · have h1 := h.tk_bd hp hl hd j
    have h3 := hl.r j hj
    rw [h.lk j hj]; omega
  · rw [nth_over (by rw [h.l3]; exact hj)]; omega
end
end Go.Proofs.Ytfefocgekmeahaa
