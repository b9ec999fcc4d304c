/- Plain laws of plants of reservoirs: the wants, what is given, levels and lacks. No walk. Conditions: none. -/
import Derived.Test.YtfefocgekmeahaaScan
namespace Go.Proofs.Ytfefocgekmeahaa

/-- a node -/
structure Nd where
  p : Int
  m : Int
  c : Int
  l : Int
def nd (ns : List Nd) (k : Nat) : Nd := ns[k]?.getD ⟨0, 0, 0, 0⟩
theorem nth_set {xs : List Int} {i : Nat} (hi : i < xs.length) (z : Int) (j : Nat) : nth (xs.set i z) j = if j = i then z else nth xs j := by
  unfold nth
  rw [List.getElem?_set]
  by_cases h : j = i
  · subst h; simp [hi]
  · simp [h, Ne.symm h]
theorem nth_over {xs : List Int} {k : Nat} (h : xs.length ≤ k) : nth xs k = 0 := by simp [nth, h]
def zeros (n : Nat) : List Int := List.replicate n 0
theorem zeros_len (n : Nat) : (zeros n).length = n := by simp [zeros]
theorem nth_zeros (n k : Nat) : nth (zeros n) k = 0 := by
  unfold nth zeros
  rw [List.getElem?_replicate]
  split <;> rfl

/-- the sum over the first k nodes that are children of node i -/
def chP (ns : List Nd) (ws : List Int) (i : Int) : Nat → Int
  | 0 => 0
  | k + 1 => chP ns ws i k + if (nd ns k).p = i then nth ws k else 0
theorem chP_congr {ns : List Nd} {ws us : List Int} {i : Int} : ∀ K : Nat, (∀ k, k < K → (nd ns k).p = i → nth ws k = nth us k) → chP ns ws i K = chP ns us i K
  | 0, _ => rfl
  | K + 1, h => by
    unfold chP
    rw [chP_congr K (fun k hk => h k (by omega))]
    split
    · rw [h K (by omega) (by assumption)]
    · rfl
theorem chP_bd {ns : List Nd} {ws : List Int} {i : Int} (h : ∀ k, 0 ≤ nth ws k ∧ nth ws k ≤ 1000000000) : ∀ K : Nat, 0 ≤ chP ns ws i K ∧ chP ns ws i K ≤ K * 1000000000
  | 0 => ⟨Int.le_refl _, by simp [chP]⟩
  | K + 1 => by
    have := chP_bd (i := i) (ns := ns) h K
    have h2 := h K
    unfold chP
    split <;> omega
theorem chP_le {ns : List Nd} {ws us : List Int} {i : Int} (h : ∀ k, nth ws k ≤ nth us k) : ∀ K : Nat, chP ns ws i K ≤ chP ns us i K
  | 0 => Int.le_refl _
  | K + 1 => by
    have := chP_le (i := i) (ns := ns) h K
    have h2 := h K
    unfold chP
    split <;> omega
theorem chP_mono {ns : List Nd} {ws : List Int} {i : Int} (h : ∀ k, 0 ≤ nth ws k) (K : Nat) : ∀ d : Nat, chP ns ws i K ≤ chP ns ws i (K + d)
  | 0 => Int.le_refl _
  | d + 1 => by
    have := chP_mono (i := i) (ns := ns) h K d
    have h2 := h (K + d)
    have e : chP ns ws i (K + (d + 1)) = chP ns ws i (K + d) + if (nd ns (K + d)).p = i then nth ws (K + d) else 0 := rfl
    rw [e]
    split <;> omega

/-- what all nodes want, behind r nodes from the last one on -/
def wT (ns : List Nd) (lv dm : List Int) : Nat → List Int
  | 0 => dm
  | r + 1 => (wT ns lv dm r).set (ns.length - (r + 1)) (min (nd ns (ns.length - (r + 1))).m
      (nth (wT ns lv dm r) (ns.length - (r + 1)) + chP ns (wT ns lv dm r) ((ns.length - (r + 1) : Nat) : Int) ns.length + (nd ns (ns.length - (r + 1))).c - nth lv (ns.length - (r + 1))))
def wF (ns : List Nd) (lv dm : List Int) : List Int := wT ns lv dm ns.length

/-- a right plant but for its supply -/
structure PlOk (ns : List Nd) : Prop where
  len : ns.length ≤ 30
  p : ∀ k, k < ns.length → -1 ≤ (nd ns k).p ∧ (nd ns k).p < k
  m : ∀ k, k < ns.length → 0 ≤ (nd ns k).m ∧ (nd ns k).m ≤ 1000000000
  c : ∀ k, k < ns.length → 0 ≤ (nd ns k).c ∧ (nd ns k).c ≤ 1000000000
  l : ∀ k, k < ns.length → 0 ≤ (nd ns k).l ∧ (nd ns k).l ≤ (nd ns k).c
structure LvOk (ns : List Nd) (lv : List Int) : Prop where
  len : lv.length = ns.length
  r : ∀ k, k < ns.length → 0 ≤ nth lv k ∧ nth lv k ≤ (nd ns k).c
structure DmOk (ns : List Nd) (dm : List Int) : Prop where
  len : dm.length = ns.length
  r : ∀ k, k < ns.length → 0 ≤ nth dm k ∧ nth dm k ≤ 1000000000
theorem DmOk.all {ns : List Nd} {dm : List Int} (h : DmOk ns dm) (k : Nat) : 0 ≤ nth dm k ∧ nth dm k ≤ 1000000000 := by
  rcases Nat.lt_or_ge k ns.length with h1 | h1
  · exact h.r k h1
  · rw [nth_over (by rw [h.len]; exact h1)]; omega

section
variable {ns : List Nd} {lv dm : List Int}
theorem wT_len (r : Nat) : (wT ns lv dm r).length = dm.length := by
  induction r with
  | zero => rfl
  | succ r ih => simp [wT, ih]
theorem wT_succ (hd : dm.length = ns.length) {r : Nat} (hr : r < ns.length) (j : Nat) : nth (wT ns lv dm (r + 1)) j = if j = ns.length - (r + 1) then min (nd ns (ns.length - (r + 1))).m
      (nth (wT ns lv dm r) (ns.length - (r + 1)) + chP ns (wT ns lv dm r) ((ns.length - (r + 1) : Nat) : Int) ns.length + (nd ns (ns.length - (r + 1))).c - nth lv (ns.length - (r + 1))) else nth (wT ns lv dm r) j := by
  conv => lhs; unfold wT
  rw [nth_set (by rw [wT_len, hd]; omega)]
theorem wT_low (hd : dm.length = ns.length) {j : Nat} : ∀ r : Nat, j + r < ns.length → nth (wT ns lv dm r) j = nth dm j
  | 0, _ => rfl
  | r + 1, h => by rw [wT_succ hd (by omega), if_neg (by omega)]; exact wT_low hd r (by omega)
theorem wT_hi (hd : dm.length = ns.length) {j r : Nat} (hj : ns.length ≤ j + r) : ∀ d : Nat, r + d ≤ ns.length → nth (wT ns lv dm (r + d)) j = nth (wT ns lv dm r) j
  | 0, _ => rfl
  | d + 1, h => by
    show nth (wT ns lv dm ((r + d) + 1)) j = _
    rw [wT_succ hd (by omega), if_neg (by omega)]
    exact wT_hi hd hj d (by omega)
theorem wT_bd (hp : PlOk ns) (hl : LvOk ns lv) (hd : DmOk ns dm) : ∀ r : Nat, r ≤ ns.length → ∀ j, 0 ≤ nth (wT ns lv dm r) j ∧ nth (wT ns lv dm r) j ≤ 1000000000
  | 0, _ => hd.all
  | r + 1, h => by
    intro j
    have ih := wT_bd hp hl hd r (by omega)
    rw [wT_succ hd.len (by omega)]
    split
    · have h1 := ih (ns.length - (r + 1))
      have h2 := (chP_bd (ns := ns) (i := ((ns.length - (r + 1) : Nat) : Int)) ih ns.length).1
      have h3 := hp.m (ns.length - (r + 1)) (by omega)
      have h4 := hl.r (ns.length - (r + 1)) (by omega)
      omega
    · exact ih j
theorem wF_bd (hp : PlOk ns) (hl : LvOk ns lv) (hd : DmOk ns dm) (j : Nat) : 0 ≤ nth (wF ns lv dm) j ∧ nth (wF ns lv dm) j ≤ 1000000000 := wT_bd hp hl hd _ (Nat.le_refl _) j
theorem wF_eq (hp : PlOk ns) (hd : dm.length = ns.length) {i : Nat} (hi : i < ns.length) :
    nth (wF ns lv dm) i = min (nd ns i).m (nth dm i + chP ns (wF ns lv dm) i ns.length + (nd ns i).c - nth lv i) := by
  obtain ⟨r, hr⟩ : ∃ r, r = ns.length - (i + 1) := ⟨_, rfl⟩
  have e : ns.length = (r + 1) + i := by omega
  have h1 : nth (wF ns lv dm) i = nth (wT ns lv dm (r + 1)) i := by
    unfold wF
    have := wT_hi (ns := ns) (lv := lv) hd (j := i) (r := r + 1) (by omega) i (by omega)
    rw [← e] at this
    exact this
  have e2 : ns.length - (r + 1) = i := by omega
  rw [h1, wT_succ hd (by omega), e2, if_pos rfl, wT_low hd r (by omega)]
  rw [chP_congr (ws := wT ns lv dm r) (us := wF ns lv dm) ns.length]
  intro k hk hpk
  have h2 := hp.p k hk
  have := wT_hi (ns := ns) (lv := lv) hd (j := k) (r := r) (by omega) (i + 1) (by omega)
  rw [show r + (i + 1) = ns.length by omega] at this
  exact this.symm
end

/-- what is given to the first k nodes that are children of node i; what was taken, and what is left -/
def gv (ns : List Nd) (ws : List Int) (i : Int) (s : List Int × Int) : Nat → List Int × Int
  | 0 => s
  | k + 1 => if (nd ns k).p = i then ((gv ns ws i s k).1.set k (min (nth ws k) (gv ns ws i s k).2), (gv ns ws i s k).2 - min (nth ws k) (gv ns ws i s k).2) else gv ns ws i s k
section
variable {ns : List Nd} {ws : List Int} {i : Int} {s : List Int × Int}
theorem gv_len (k : Nat) : (gv ns ws i s k).1.length = s.1.length := by
  induction k with
  | zero => rfl
  | succ k ih =>
    unfold gv
    split
    · simpa using ih
    · exact ih
theorem gv_left (hw : ∀ k, 0 ≤ nth ws k) (hs : 0 ≤ s.2) : ∀ k : Nat, (gv ns ws i s k).2 = max 0 (s.2 - chP ns ws i k)
  | 0 => by simp [gv, chP]; omega
  | k + 1 => by
    have ih := gv_left hw hs k
    have h1 := hw k
    unfold gv chP
    split
    · simp only [ih]; omega
    · simpa using ih
theorem gv_taken (hw : ∀ k, 0 ≤ nth ws k) (hs : 0 ≤ s.2) (j : Nat) : ∀ k : Nat, k ≤ s.1.length → nth (gv ns ws i s k).1 j = if j < k ∧ (nd ns j).p = i then min (nth ws j) (max 0 (s.2 - chP ns ws i j)) else nth s.1 j
  | 0, _ => by simp [gv]
  | k + 1, hk => by
    have ih := gv_taken hw hs j k (by omega)
    have h2 := gv_left (ns := ns) (i := i) hw hs k
    unfold gv
    by_cases hp : (nd ns k).p = i
    · rw [if_pos hp]
      show nth (List.set _ k _) j = _
      rw [nth_set (by rw [gv_len]; omega), h2]
      by_cases hj : j = k
      · subst hj; rw [if_pos rfl, if_pos ⟨by omega, hp⟩]
      · rw [if_neg hj, ih]
        by_cases hq : j < k ∧ (nd ns j).p = i
        · rw [if_pos hq, if_pos ⟨by omega, hq.2⟩]
        · rw [if_neg hq, if_neg (fun h => hq ⟨by omega, h.2⟩)]
    · rw [if_neg hp, ih]
      by_cases hq : j < k ∧ (nd ns j).p = i
      · rw [if_pos hq, if_pos ⟨by omega, hq.2⟩]
      · rw [if_neg hq, if_neg (fun h => hq ⟨by
          have : j ≠ k := fun e => hp (e ▸ h.2)
          omega, h.2⟩)]
end

/-- a state: levels, what was taken, what lacks -/
structure St where
  lv : List Int
  tk : List Int
  lk : List Int
/-- the state behind the first i nodes of a step -/
def stT (ns : List Nd) (sup : Int) (lv dm ws : List Int) : Nat → St
  | 0 => ⟨lv, (gv ns ws (-1) (zeros ns.length, sup) ns.length).1, zeros ns.length⟩
  | i + 1 =>
    ⟨(stT ns sup lv dm ws i).lv.set i (gv ns ws i ((stT ns sup lv dm ws i).tk, nth lv i + nth (stT ns sup lv dm ws i).tk i - min (nth dm i) (nth lv i + nth (stT ns sup lv dm ws i).tk i)) ns.length).2,
      (gv ns ws i ((stT ns sup lv dm ws i).tk, nth lv i + nth (stT ns sup lv dm ws i).tk i - min (nth dm i) (nth lv i + nth (stT ns sup lv dm ws i).tk i)) ns.length).1,
      (stT ns sup lv dm ws i).lk.set i (nth dm i - min (nth dm i) (nth lv i + nth (stT ns sup lv dm ws i).tk i))⟩
def stepF (ns : List Nd) (sup : Int) (lv dm : List Int) : St := stT ns sup lv dm (wF ns lv dm) ns.length

section
variable {ns : List Nd} {sup : Int} {lv dm ws : List Int}
theorem stT_len (hl : lv.length = ns.length) (i : Nat) : (stT ns sup lv dm ws i).lv.length = ns.length ∧ (stT ns sup lv dm ws i).tk.length = ns.length ∧ (stT ns sup lv dm ws i).lk.length = ns.length := by
  induction i with
  | zero => exact ⟨hl, by simp [stT, gv_len, zeros_len], by simp [stT, zeros_len]⟩
  | succ i ih =>
    obtain ⟨h1, h2, h3⟩ := ih
    refine ⟨by simp [stT, h1], by simp [stT, gv_len, h2], by simp [stT, h3]⟩
/-- what a node has behind its own demand -/
def hasK (lv dm tk : List Int) (k : Nat) : Int := max 0 (nth lv k + nth tk k - nth dm k)
/-- what the children of a node get at most -/
def forK (sup : Int) (lv dm tk : List Int) (i : Int) : Int := if i < 0 then sup else hasK lv dm tk i.toNat

structure StInv (ns : List Nd) (sup : Int) (lv dm ws : List Int) (i : Nat) (s : St) : Prop where
  tk : ∀ j, j < ns.length → (nd ns j).p < i → nth s.tk j = min (nth ws j) (max 0 (forK sup lv dm s.tk (nd ns j).p - chP ns ws (nd ns j).p j))
  tz : ∀ j, j < ns.length → ¬ (nd ns j).p < i → nth s.tk j = 0
  lv1 : ∀ j, j < i → nth s.lv j = max 0 (hasK lv dm s.tk j - chP ns ws j ns.length)
  lv2 : ∀ j, i ≤ j → nth s.lv j = nth lv j
  lk1 : ∀ j, j < i → nth s.lk j = max 0 (nth dm j - nth lv j - nth s.tk j)

theorem stInv (hp : PlOk ns) (hl : LvOk ns lv) (hs : 0 ≤ sup) (hw : ∀ k, 0 ≤ nth ws k) (hd : ∀ k, 0 ≤ nth dm k) : ∀ i : Nat, i ≤ ns.length → StInv ns sup lv dm ws i (stT ns sup lv dm ws i)
  | 0, _ => by
    refine ⟨fun j hj h => ?_, fun j hj h => ?_, fun j hj => by omega, fun j _ => rfl, fun j hj => by omega⟩
    · have h1 := hp.p j hj
      have e : (nd ns j).p = -1 := by omega
      show nth (gv ns ws (-1) (zeros ns.length, sup) ns.length).1 j = _
      rw [gv_taken hw hs j _ (by simp [zeros_len]), if_pos ⟨hj, e⟩, e]
      rfl
    · show nth (gv ns ws (-1) (zeros ns.length, sup) ns.length).1 j = _
      rw [gv_taken hw hs j _ (by simp [zeros_len]), if_neg (fun e => h (by rw [e.2]; decide)), nth_zeros]
  | i + 1, hi => by
    obtain ⟨h1, h2, h3, h4, h5⟩ := stInv hp hl hs hw hd i (by omega)
    obtain ⟨l1, l2, l3⟩ := stT_len (sup := sup) (dm := dm) (ws := ws) hl.len i
    generalize hS : stT ns sup lv dm ws i = s at h1 h2 h3 h4 h5 l1 l2 l3
    have hx : nth lv i + nth s.tk i - min (nth dm i) (nth lv i + nth s.tk i) = hasK lv dm s.tk i := by
      unfold hasK
      omega
    have hx0 : 0 ≤ hasK lv dm s.tk i := by unfold hasK; omega
    have hT : ∀ j, nth (gv ns ws i (s.tk, hasK lv dm s.tk i) ns.length).1 j = if j < ns.length ∧ (nd ns j).p = i then min (nth ws j) (max 0 (hasK lv dm s.tk i - chP ns ws i j)) else nth s.tk j := fun j =>
      gv_taken hw hx0 j _ (by rw [l2]; exact Nat.le_refl _)
    have hK : ∀ j, j ≤ i → hasK lv dm (gv ns ws i (s.tk, hasK lv dm s.tk i) ns.length).1 j = hasK lv dm s.tk j := fun j hj => by
      unfold hasK
      have := hT j
      rw [if_neg (fun h => by have := hp.p j h.1; omega)] at this
      unfold hasK at this
      rw [this]
    have hL : (gv ns ws i (s.tk, hasK lv dm s.tk i) ns.length).2 = max 0 (hasK lv dm s.tk i - chP ns ws i ns.length) := gv_left hw hx0 _
    unfold stT
    rw [hS, hx]
    refine ⟨fun j hj h => ?_, fun j hj h => ?_, fun j hj => ?_, fun j hj => ?_, fun j hj => ?_⟩
    · show nth (gv ns ws i (s.tk, hasK lv dm s.tk i) ns.length).1 j = _
      have hfor : forK sup lv dm (gv ns ws i (s.tk, hasK lv dm s.tk i) ns.length).1 (nd ns j).p = forK sup lv dm s.tk (nd ns j).p := by
        unfold forK
        split
        · rfl
        · exact hK _ (by have := hp.p j hj; omega)
      show _ = min (nth ws j) (max 0 (forK sup lv dm (gv ns ws i (s.tk, hasK lv dm s.tk i) ns.length).1 (nd ns j).p - chP ns ws (nd ns j).p j))
      rw [hfor, hT]
      by_cases he : (nd ns j).p = i
      · rw [if_pos ⟨hj, he⟩, he]
        unfold forK
        rw [if_neg (by omega)]
        rfl
      · rw [if_neg (fun h => he h.2)]
        exact h1 j hj (by omega)
    · show nth (gv ns ws i (s.tk, hasK lv dm s.tk i) ns.length).1 j = _
      rw [hT, if_neg (fun e => h (by omega))]
      exact h2 j hj (by omega)
    · show nth (s.lv.set i (gv ns ws i (s.tk, hasK lv dm s.tk i) ns.length).2) j = max 0 (hasK lv dm (gv ns ws i (s.tk, hasK lv dm s.tk i) ns.length).1 j - _)
      rw [nth_set (by omega), hK j (by omega), hL]
      split
      · rename_i e; subst e; rfl
      · exact h3 j (by omega)
    · show nth (s.lv.set i _) j = _
      rw [nth_set (by omega), if_neg (by omega)]
      exact h4 j (by omega)
    · show nth (s.lk.set i _) j = max 0 (nth dm j - nth lv j - nth (gv ns ws i (s.tk, hasK lv dm s.tk i) ns.length).1 j)
      have := hT j
      rw [if_neg (fun h => by have := hp.p j h.1; omega)] at this
      rw [nth_set (by omega), this]
      split
      · rename_i e; subst e
        omega
      · exact h5 j (by omega)
end
end Go.Proofs.Ytfefocgekmeahaa
