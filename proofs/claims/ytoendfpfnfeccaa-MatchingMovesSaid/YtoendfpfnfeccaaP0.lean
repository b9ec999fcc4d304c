/- Plain laws of the assignment of least cost: what the loops of solve keep. Rows and columns count from 1. No walk. Conditions: none. -/
import Derived.Test.YtoendfpfnfeccaaScan
namespace Go.Proofs.Ytoendfpfnfeccaa

/-- what is so behind the first i rows -/
structure Out (m : Nat) (c : Nat → Nat → Int) (C : Int) (i : Nat) (u v : Nat → Int) (o : Nat → Nat) : Prop where
  ol : ∀ k, 1 ≤ k → k ≤ m → o k ≤ i
  sur : ∀ r, 1 ≤ r → r ≤ i → ∃ k, 1 ≤ k ∧ k ≤ m ∧ o k = r
  inj : ∀ k l, 1 ≤ k → k ≤ m → 1 ≤ l → l ≤ m → o k = o l → o k ≠ 0 → k = l
  feas : ∀ r k, 1 ≤ r → r ≤ i → 1 ≤ k → k ≤ m → u r + v k ≤ c r k
  tight : ∀ k, 1 ≤ k → k ≤ m → o k ≠ 0 → u (o k) + v k = c (o k) k
  vneg : ∀ k, 1 ≤ k → k ≤ m → v k ≤ 0
  vfree : ∀ k, 1 ≤ k → k ≤ m → o k = 0 → v k = 0
  u0 : ∀ r, i < r → u r = 0
  zero : i = 0 ∨ ∃ k, 1 ≤ k ∧ k ≤ m ∧ v k = 0
  v0 : -(i * C) ≤ v 0 ∧ v 0 ≤ i * C
  c0 : ∀ r k, -C ≤ c r k ∧ c r k ≤ C
section
variable {m i : Nat} {c : Nat → Nat → Int} {C : Int} {u v : Nat → Int} {o : Nat → Nat}
theorem Out.ub (h : Out m c C i u v o) {r : Nat} (h1 : 1 ≤ r) (h2 : r ≤ i) : -C ≤ u r ∧ u r ≤ C := by
  obtain ⟨k, k1, k2, rfl⟩ := h.sur r h1 h2
  have ht := h.tight k k1 k2 (by omega)
  have hv := h.vneg k k1 k2
  have hc := h.c0 (o k) k
  rcases h.zero with h0 | ⟨l, l1, l2, l3⟩
  · omega
  · have hf := h.feas (o k) l h1 h2 l1 l2
    have hc2 := h.c0 (o k) l
    omega
theorem Out.vb (h : Out m c C i u v o) {k : Nat} (h1 : 1 ≤ k) (h2 : k ≤ m) : -(2 * C) ≤ v k ∧ v k ≤ 0 := by
  have hv := h.vneg k h1 h2
  have hc := h.c0 1 1
  by_cases h0 : o k = 0
  · rw [h.vfree k h1 h2 h0]; omega
  · have ht := h.tight k h1 h2 h0
    have hu := h.ub (r := o k) (by omega) (h.ol k h1 h2)
    have hc2 := h.c0 (o k) k
    omega
theorem Out.start (hc : ∀ r k, -C ≤ c r k ∧ c r k ≤ C) (hu : ∀ r, u r = 0) (hv : ∀ k, v k = 0) (ho : ∀ k, o k = 0) : Out m c C 0 u v o :=
  ⟨fun k _ _ => Nat.le_of_eq (ho k), fun r h1 h2 => by omega, fun k l _ _ _ _ _ h => absurd (ho k) h, fun r k h1 h2 => by omega, fun k _ _ h => absurd (ho k) h, fun k _ _ => by rw [hv]; exact Int.le_refl _, fun k _ _ _ => hv k, fun r _ => hu r, .inl rfl, by rw [hv]; simp, hc⟩
/-- more columns than rows: one is free -/
theorem free_col : ∀ (m i : Nat) (o : Nat → Nat), i < m → (∀ k, 1 ≤ k → k ≤ m → o k ≤ i) → (∀ k l, 1 ≤ k → k ≤ m → 1 ≤ l → l ≤ m → o k = o l → o k ≠ 0 → k = l) → ∃ k, 1 ≤ k ∧ k ≤ m ∧ o k = 0
  | m, 0, o, hm, h1, _ => ⟨1, Nat.le_refl _, by omega, by have := h1 1 (Nat.le_refl _) (by omega); omega⟩
  | 0, i + 1, o, hm, _, _ => by omega
  | m + 1, i + 1, o, hm, h1, h2 => by
    by_cases hl : o (m + 1) = 0
    · exact ⟨m + 1, by omega, Nat.le_refl _, hl⟩
    · -- rows above that of the last column move down by one
      obtain ⟨k, k1, k2, k3⟩ := free_col m i (fun k => if o (m + 1) < o k then o k - 1 else o k) (by omega)
        (fun k a b => by
          have := h1 k a (by omega)
          have hne : o k ≠ o (m + 1) := fun e => by have := h2 k (m + 1) a (by omega) (by omega) (Nat.le_refl _) e (by omega); omega
          have h3 := h1 (m + 1) (by omega) (Nat.le_refl _)
          split <;> omega)
        (fun k l a b a' b' e he => by
          have hk : o k ≠ o (m + 1) := fun e => by have := h2 k (m + 1) a (by omega) (by omega) (Nat.le_refl _) e (by omega); omega
          have hl' : o l ≠ o (m + 1) := fun e => by have := h2 l (m + 1) a' (by omega) (by omega) (Nat.le_refl _) e (by omega); omega
          refine h2 k l a (by omega) a' (by omega) ?_ ?_
          · split at e <;> split at e <;> omega
          · split at he <;> omega)
      refine ⟨k, k1, by omega, ?_⟩
      split at k3 <;> omega
end

/-- each column of a list but 0 was reached from a later one of the list -/
def Tree (w : Nat → Nat) : List Nat → Prop
  | [] => True
  | k :: rest => (k ≠ 0 → w k ∈ rest) ∧ Tree w rest
theorem Tree.congr {w w' : Nat → Nat} : ∀ {l : List Nat}, (∀ k ∈ l, w' k = w k) → Tree w l → Tree w' l
  | [], _, _ => trivial
  | k :: rest, h, ⟨h1, h2⟩ => ⟨fun h0 => by rw [h k (by simp)]; exact h1 h0, Tree.congr (fun k hk => h k (by simp [hk])) h2⟩

/-- what is so while row i is added: ord are the columns that are done, the last one first; a is the column that was reached -/
structure Ph (m : Nat) (c : Nat → Nat → Int) (C far vs : Int) (i : Nat) (u v : Nat → Int) (o w : Nat → Nat) (le : Nat → Int) (D : Nat → Bool) (ord : List Nat) (a : Nat) : Prop where
  i1 : 1 ≤ i
  im : i ≤ m
  dn : ∀ k, k ≤ m → (D k = true ↔ k ∈ ord)
  om : ∀ k ∈ ord, k ≤ m ∧ o k ≠ 0
  am : a ≤ m
  an : a ∉ ord
  nd : ord.Nodup
  o0 : o 0 = i
  ol : ∀ k, 1 ≤ k → k ≤ m → o k < i
  sur : ∀ r, 1 ≤ r → r < i → ∃ k, 1 ≤ k ∧ k ≤ m ∧ o k = r
  inj : ∀ k l, 1 ≤ k → k ≤ m → 1 ≤ l → l ≤ m → o k = o l → o k ≠ 0 → k = l
  emp : ord = [] → a = 0 ∧ (∀ k, 1 ≤ k → k ≤ m → le k = far) ∧ u i = 0
  non : ord ≠ [] → 0 ∈ ord
  feas : ∀ r k, 1 ≤ r → r < i → 1 ≤ k → k ≤ m → u r + v k ≤ c r k
  feasi : ord ≠ [] → ∀ k, 1 ≤ k → k ≤ m → u i + v k ≤ c i k
  tight : ∀ k, 1 ≤ k → k ≤ m → o k ≠ 0 → u (o k) + v k = c (o k) k
  vneg : ∀ k, 1 ≤ k → k ≤ m → v k ≤ 0
  vfree : ∀ k, 1 ≤ k → k ≤ m → o k = 0 → v k = 0
  u0 : ∀ r, i < r → u r = 0
  tree : Tree w (a :: ord)
  tt : ∀ k, k = a ∨ k ∈ ord → k ≠ 0 → u (o (w k)) + v k = c (o (w k)) k
  least : ord ≠ [] → ∀ k, 1 ≤ k → k ≤ m → k ∉ ord → w k ∈ ord ∧ le k = c (o (w k)) k - u (o (w k)) - v k ∧ (∀ j ∈ ord, le k ≤ c (o j) k - u (o j) - v k) ∧ 0 ≤ le k
  uilo : ord ≠ [] → -C ≤ u i
  v0 : v 0 = vs - u i
  vsb : -((i - 1 : Nat) * C) ≤ vs ∧ vs ≤ (i - 1 : Nat) * C
  c0 : ∀ r k, -C ≤ c r k ∧ c r k ≤ C
  farb : 4 * C < far
section
variable {m i : Nat} {c : Nat → Nat → Int} {C far vs : Int} {u v : Nat → Int} {o w : Nat → Nat} {le : Nat → Int} {D : Nat → Bool} {ord : List Nat} {a : Nat}
/-- row i begins -/
theorem Ph.start (h : Out m c C (i - 1) u v o) (i1 : 1 ≤ i) (im : i ≤ m) {o' : Nat → Nat} (ho : o' 0 = i) (ho' : ∀ k, 1 ≤ k → o' k = o k) (hD : ∀ k, D k = false) (hle : ∀ k, 1 ≤ k → k ≤ m → le k = far) (hfar : 4 * C < far) :
    Ph m c C far (v 0) i u v o' w le D [] 0 where
  i1 := i1
  im := im
  dn := fun k _ => by rw [hD]; simp
  om := by simp
  am := Nat.zero_le _
  an := by simp
  nd := List.nodup_nil
  o0 := ho
  ol := fun k a b => by rw [ho' k a]; have := h.ol k a b; omega
  sur := fun r a b => by obtain ⟨k, k1, k2, k3⟩ := h.sur r a (by omega); exact ⟨k, k1, k2, by rw [ho' k k1]; exact k3⟩
  inj := fun k l a b a' b' e => by rw [ho' k a, ho' l a'] at *; exact h.inj k l a b a' b' e
  emp := fun _ => ⟨rfl, hle, h.u0 i (by omega)⟩
  non := fun e => absurd rfl e
  feas := fun r k a b a' b' => h.feas r k a (by omega) a' b'
  feasi := fun e => absurd rfl e
  tight := fun k a b e => by rw [ho' k a] at *; exact h.tight k a b e
  vneg := h.vneg
  vfree := fun k a b e => by rw [ho' k a] at e; exact h.vfree k a b e
  u0 := fun r hr => h.u0 r (by omega)
  tree := ⟨fun e => absurd rfl e, trivial⟩
  tt := fun k hk h0 => absurd (hk.resolve_right (by simp)) h0
  least := fun e => absurd rfl e
  uilo := fun e => absurd rfl e
  v0 := by rw [h.u0 i (by omega)]; omega
  vsb := h.v0
  c0 := h.c0
  farb := hfar
/-- one column at least is free -/
theorem Ph.freeK (h : Ph m c C far vs i u v o w le D ord a) : ∃ k, 1 ≤ k ∧ k ≤ m ∧ o k = 0 ∧ k ∉ ord ∧ v k = 0 := by
  obtain ⟨k, k1, k2, k3⟩ := free_col m (i - 1) o (by have := h.i1; have := h.im; omega) (fun k a b => by have := h.ol k a b; omega) h.inj
  exact ⟨k, k1, k2, k3, fun hk => (h.om k hk).2 k3, h.vfree k k1 k2 k3⟩
theorem Ph.ub (h : Ph m c C far vs i u v o w le D ord a) {r : Nat} (h1 : 1 ≤ r) (h2 : r ≤ i) : -C ≤ u r ∧ u r ≤ C := by
  obtain ⟨l, l1, l2, _, _, l3⟩ := h.freeK
  have hcl := h.c0 r l
  by_cases hri : r = i
  · subst hri
    by_cases he : ord = []
    · rw [(h.emp he).2.2]; omega
    · have h3 := h.uilo he
      have h4 := h.feasi he l l1 l2
      omega
  · obtain ⟨k, k1, k2, rfl⟩ := h.sur r h1 (by omega)
    have ht := h.tight k k1 k2 (by omega)
    have hv := h.vneg k k1 k2
    have hc := h.c0 (o k) k
    have hf := h.feas (o k) l h1 (by omega) l1 l2
    omega
theorem Ph.vb (h : Ph m c C far vs i u v o w le D ord a) {k : Nat} (h1 : 1 ≤ k) (h2 : k ≤ m) : -(2 * C) ≤ v k ∧ v k ≤ 0 := by
  have hv := h.vneg k h1 h2
  have hc := h.c0 1 1
  by_cases h0 : o k = 0
  · rw [h.vfree k h1 h2 h0]; omega
  · have ht := h.tight k h1 h2 h0
    have hu := h.ub (r := o k) (by omega) (by have := h.ol k h1 h2; omega)
    have hc2 := h.c0 (o k) k
    omega
theorem Ph.oi (h : Ph m c C far vs i u v o w le D ord a) {k : Nat} (h2 : k ≤ m) : o k ≤ i := by
  rcases Nat.eq_zero_or_pos k with rfl | h1
  · rw [h.o0]; exact Nat.le_refl _
  · have := h.ol k h1 h2; omega
/-- the owners of two columns differ -/
theorem Ph.onj (h : Ph m c C far vs i u v o w le D ord a) {k l : Nat} (hk : k ≤ m) (hl : l ≤ m) (e : o k = o l) (h0 : o k ≠ 0) : k = l := by
  have := h.i1
  rcases Nat.eq_zero_or_pos k with rfl | h1
  · rcases Nat.eq_zero_or_pos l with rfl | h2
    · rfl
    · have := h.ol l h2 hl; have := h.o0; omega
  · rcases Nat.eq_zero_or_pos l with rfl | h2
    · have := h.ol k h1 hk; have := h.o0; omega
    · exact h.inj k l h1 hk h2 hl e h0
end

/-- what the scan of the columns below K found, from row r = o a on -/
structure Sc (m : Nat) (c : Nat → Nat → Int) (far : Int) (u v : Nat → Int) (w : Nat → Nat) (le : Nat → Int) (ord : List Nat) (a r K : Nat) (w' : Nat → Nat) (le' : Nat → Int) (d : Int) (x : Nat) : Prop where
  lt : ∀ k, 1 ≤ k → k < K → k ∉ ord → c r k - u r - v k < le k → le' k = c r k - u r - v k ∧ w' k = a
  ge : ∀ k, 1 ≤ k → k < K → k ∉ ord → ¬ c r k - u r - v k < le k → le' k = le k ∧ w' k = w k
  out : ∀ k, K ≤ k ∨ k = 0 ∨ k ∈ ord → le' k = le k ∧ w' k = w k
  mn : ∀ k, 1 ≤ k → k < K → k ∉ ord → d ≤ le' k
  at' : (x = 0 ∧ d = far) ∨ (1 ≤ x ∧ x < K ∧ x ≤ m ∧ x ∉ ord ∧ le' x = d)
section
variable {m i : Nat} {c : Nat → Nat → Int} {C far vs : Int} {u v : Nat → Int} {o w w' : Nat → Nat} {le le' : Nat → Int} {D : Nat → Bool} {ord : List Nat} {a r K : Nat} {d : Int} {x : Nat}
theorem Sc.start : Sc m c far u v w le ord a r 1 w le far 0 :=
  ⟨fun k h1 h2 => by omega, fun k h1 h2 => by omega, fun _ _ => ⟨rfl, rfl⟩, fun k h1 h2 => by omega, .inl ⟨rfl, rfl⟩⟩
theorem Sc.skip (h : Sc m c far u v w le ord a r K w' le' d x) (hK : K ∈ ord) : Sc m c far u v w le ord a r (K + 1) w' le' d x := by
  refine ⟨fun k h1 h2 h3 => ?_, fun k h1 h2 h3 => ?_, fun k hk => ?_, fun k h1 h2 h3 => ?_, ?_⟩
  · have : k ≠ K := fun e => h3 (e ▸ hK)
    exact h.lt k h1 (by omega) h3
  · have : k ≠ K := fun e => h3 (e ▸ hK)
    exact h.ge k h1 (by omega) h3
  · rcases hk with hk | hk
    · exact h.out k (.inl (by omega))
    · exact h.out k (.inr hk)
  · have : k ≠ K := fun e => h3 (e ▸ hK)
    exact h.mn k h1 (by omega) h3
  · rcases h.at' with h1 | h1
    · exact .inl h1
    · exact .inr ⟨h1.1, by omega, h1.2.2⟩
/-- a column that is not done: its least and way, then the least of all -/
theorem Sc.step (h : Sc m c far u v w le ord a r K w' le' d x) (h1 : 1 ≤ K) (hm : K ≤ m) (hK : K ∉ ord) {w2 : Nat → Nat} {le2 : Nat → Int} {d2 : Int} {x2 : Nat}
    (hl : ∀ k, le2 k = if k = K then (if c r K - u r - v K < le K then c r K - u r - v K else le K) else le' k) (hw : ∀ k, w2 k = if k = K then (if c r K - u r - v K < le K then a else w K) else w' k)
    (hd : d2 = if le2 K < d then le2 K else d) (hx : x2 = if le2 K < d then K else x) : Sc m c far u v w le ord a r (K + 1) w2 le2 d2 x2 := by
  have hdle : d2 ≤ d := by rw [hd]; split <;> omega
  refine ⟨fun k k1 k2 k3 k4 => ?_, fun k k1 k2 k3 k4 => ?_, fun k hk => ?_, fun k k1 k2 k3 => ?_, ?_⟩
  · by_cases e : k = K
    · subst e; rw [hl, hw, if_pos rfl, if_pos rfl, if_pos k4, if_pos k4]; exact ⟨rfl, rfl⟩
    · rw [hl, hw, if_neg e, if_neg e]; exact h.lt k k1 (by omega) k3 k4
  · by_cases e : k = K
    · subst e; rw [hl, hw, if_pos rfl, if_pos rfl, if_neg k4, if_neg k4]; exact ⟨rfl, rfl⟩
    · rw [hl, hw, if_neg e, if_neg e]; exact h.ge k k1 (by omega) k3 k4
  · have e : k ≠ K := by
      rintro rfl
      rcases hk with hk | rfl | hk
      · omega
      · omega
      · exact hK hk
    rw [hl, hw, if_neg e, if_neg e]
    rcases hk with hk | hk
    · exact h.out k (.inl (by omega))
    · exact h.out k (.inr hk)
  · by_cases e : k = K
    · subst e; rw [hd]; split <;> omega
    · have h5 := h.mn k k1 (by omega) k3
      rw [hl k, if_neg e]
      omega
  · by_cases hlt : le2 K < d
    · rw [hx, hd, if_pos hlt, if_pos hlt]
      exact .inr ⟨h1, by omega, hm, hK, rfl⟩
    · rw [hx, hd, if_neg hlt, if_neg hlt]
      rcases h.at' with h5 | ⟨h5, h6, h7, h8, h9⟩
      · exact .inl h5
      · refine .inr ⟨h5, by omega, h7, h8, ?_⟩
        rw [hl, if_neg (by omega)]
        exact h9
end
end Go.Proofs.Ytoendfpfnfeccaa
