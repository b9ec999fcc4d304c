/- Plain laws of the assignment of least cost: a step to the next column, and the change of owners behind it. No walk. Conditions: none. -/
import Derived.Test.YtoendfpfnfeccaaP0
namespace Go.Proofs.Ytoendfpfnfeccaa

theorem Tree.mem {w : Nat → Nat} : ∀ {l : List Nat} {k : Nat}, Tree w l → k ∈ l → k ≠ 0 → w k ∈ l
  | [], k, _, hk, _ => by simp at hk
  | x :: rest, k, ⟨h1, h2⟩, hk, h0 => by
    rcases List.mem_cons.1 hk with rfl | hk
    · exact List.mem_cons_of_mem _ (h1 h0)
    · exact List.mem_cons_of_mem _ (Tree.mem h2 hk h0)
/-- what lies behind a column of the list -/
theorem Tree.drop {w : Nat → Nat} : ∀ {l : List Nat} {x : Nat}, Tree w l → l.Nodup → x ∈ l → ∃ l2, Tree w (x :: l2) ∧ (x :: l2).Nodup ∧ (∀ j ∈ l2, j ∈ l) ∧ l2.length < l.length
  | [], x, _, _, hx => by simp at hx
  | y :: rest, x, ⟨h1, h2⟩, hn, hx => by
    rcases List.mem_cons.1 hx with rfl | hx
    · exact ⟨rest, ⟨h1, h2⟩, hn, fun j hj => List.mem_cons_of_mem _ hj, by simp⟩
    · obtain ⟨l2, g1, g2, g3, g4⟩ := Tree.drop h2 (List.nodup_cons.1 hn).2 hx
      exact ⟨l2, g1, g2, fun j hj => List.mem_cons_of_mem _ (g3 j hj), by simp only [List.length_cons]; omega⟩

section
variable {m i : Nat} {c : Nat → Nat → Int} {C far vs : Int} {u v u' v' : Nat → Int} {o w w' : Nat → Nat} {le le' le2 : Nat → Int} {D D' : Nat → Bool} {ord : List Nat} {a : Nat} {d : Int} {x : Nat}
/-- what a row lacks at a column is small -/
theorem Ph.cur (h : Ph m c C far vs i u v o w le D ord a) (ha : o a ≠ 0) {k : Nat} (h1 : 1 ≤ k) (h2 : k ≤ m) : -(2 * C) ≤ c (o a) k - u (o a) - v k ∧ c (o a) k - u (o a) - v k ≤ 4 * C := by
  have hu := h.ub (r := o a) (by omega) (h.oi h.am)
  have hv := h.vb h1 h2
  have hc := h.c0 (o a) k
  omega
theorem Ph.lec (h : Ph m c C far vs i u v o w le D ord a) {k : Nat} (h1 : 1 ≤ k) (h2 : k ≤ m) (hk : k ∉ ord) : 0 ≤ le k ∧ le k ≤ far := by
  have hfb := h.farb
  have hc := h.c0 1 1
  by_cases he : ord = []
  · rw [(h.emp he).2.1 k h1 h2]; omega
  · obtain ⟨g1, g2, g3, g4⟩ := h.least he k h1 h2 hk
    have hu := h.ub (r := o (w k)) (by have := (h.om _ g1).2; omega) (h.oi (h.om _ g1).1)
    have hv := h.vb h1 h2
    have hc := h.c0 (o (w k)) k
    omega
/-- what the scan has found, each column by itself -/
theorem Ph.scan (h : Ph m c C far vs i u v o w le D ord a) (ha : o a ≠ 0) (hs : Sc m c far u v w le (a :: ord) a (o a) (m + 1) w' le' d x) {k : Nat} (h1 : 1 ≤ k) (h2 : k ≤ m) (hk : k ∉ a :: ord) :
    w' k ∈ a :: ord ∧ le' k = c (o (w' k)) k - u (o (w' k)) - v k ∧ (∀ j ∈ a :: ord, le' k ≤ c (o j) k - u (o j) - v k) ∧ (ord ≠ [] → 0 ≤ le' k) ∧ d ≤ le' k := by
  have hmn := hs.mn k h1 (by omega) hk
  have hko : k ∉ ord := fun e => hk (List.mem_cons_of_mem _ e)
  have hcb := h.cur ha h1 h2
  have hfb := h.farb
  by_cases hlt : c (o a) k - u (o a) - v k < le k
  · obtain ⟨e1, e2⟩ := hs.lt k h1 (by omega) hk hlt
    rw [e2]
    refine ⟨by simp, e1, fun j hj => ?_, fun he => ?_, hmn⟩
    · rcases List.mem_cons.1 hj with rfl | hj
      · rw [e1]; exact Int.le_refl _
      · have := (h.least (by rintro rfl; simp at hj) k h1 h2 hko).2.2.1 j hj
        omega
    · have ha0 : a ≠ 0 := fun e => h.an (e ▸ h.non he)
      have := h.feas (o a) k (by omega) (h.ol a (by omega) h.am) h1 h2
      omega
  · obtain ⟨e1, e2⟩ := hs.ge k h1 (by omega) hk hlt
    by_cases he : ord = []
    · rw [(h.emp he).2.1 k h1 h2] at hlt; omega
    · obtain ⟨g1, g2, g3, g4⟩ := h.least he k h1 h2 hko
      rw [e2, e1]
      refine ⟨List.mem_cons_of_mem _ g1, g2, fun j hj => ?_, fun _ => g4, by omega⟩
      rcases List.mem_cons.1 hj with rfl | hj
      · omega
      · exact g3 j hj
/-- the least of all, and its column -/
theorem Ph.dx (h : Ph m c C far vs i u v o w le D ord a) (ha : o a ≠ 0) (hs : Sc m c far u v w le (a :: ord) a (o a) (m + 1) w' le' d x) : 1 ≤ x ∧ x ≤ m ∧ x ∉ a :: ord ∧ le' x = d ∧ -C ≤ d ∧ d ≤ 2 * C ∧ (ord ≠ [] → 0 ≤ d) := by
  obtain ⟨f, f1, f2, f3, f4, f5⟩ := h.freeK
  have hfo : f ∉ a :: ord := fun e => by
    rcases List.mem_cons.1 e with rfl | e
    · exact ha f3
    · exact f4 e
  obtain ⟨g1, g2, g3, g4, g5⟩ := h.scan ha hs f1 f2 hfo
  have g6 := g3 a (by simp)
  have hu := h.ub (r := o a) (by omega) (h.oi h.am)
  have hc := h.c0 (o a) f
  have hfb := h.farb
  rcases hs.at' with ⟨_, e⟩ | ⟨x1, x2, x3, x4, x5⟩
  · omega
  · obtain ⟨k1, k2, k3, k4, k5⟩ := h.scan ha hs x1 x3 x4
    refine ⟨x1, x3, x4, x5, ?_, by omega, fun he => by have := k4 he; omega⟩
    by_cases he : ord = []
    · have ha0 := (h.emp he).1
      have hu0 := (h.emp he).2.2
      have hw : w' x = a := by
        rcases List.mem_cons.1 k1 with e | e
        · exact e
        · rw [he] at e; simp at e
      rw [hw, ha0, h.o0, hu0] at k2
      have := h.vneg x x1 x3
      have := h.c0 i x
      omega
    · have := k4 he
      have := h.c0 1 1
      omega
/-- the step to the next column -/
theorem Ph.step (h : Ph m c C far vs i u v o w le D ord a) (ha : o a ≠ 0) (hs : Sc m c far u v w le (a :: ord) a (o a) (m + 1) w' le' d x)
    (hu : ∀ k ∈ a :: ord, u' (o k) = u (o k) + d) (hu2 : ∀ r, (∀ k ∈ a :: ord, o k ≠ r) → u' r = u r) (hv : ∀ k, k ≤ m → k ∈ a :: ord → v' k = v k - d) (hv2 : ∀ k, k ≤ m → k ∉ a :: ord → v' k = v k)
    (hl : ∀ k, 1 ≤ k → k ≤ m → k ∉ a :: ord → le2 k = le' k - d) (hD : ∀ k, k ≤ m → (D' k = true ↔ D k = true ∨ k = a)) : Ph m c C far vs i u' v' o w' le2 D' (a :: ord) x := by
  obtain ⟨x1, x2, x3, x4, x5, x6, x7⟩ := h.dx ha hs
  have hi1 := h.i1
  have h0 : 0 ∈ a :: ord := by
    by_cases he : ord = []
    · rw [(h.emp he).1]; simp
    · exact List.mem_cons_of_mem _ (h.non he)
  have hkd : ∀ k ∈ a :: ord, 1 ≤ k → ord ≠ [] := fun k hk k1 e => by
    rw [e] at hk
    rcases List.mem_cons.1 hk with rfl | hk
    · have := (h.emp e).1; omega
    · simp at hk
  have hom : ∀ k ∈ a :: ord, k ≤ m ∧ o k ≠ 0 := fun k hk => by
    rcases List.mem_cons.1 hk with rfl | hk
    · exact ⟨h.am, ha⟩
    · exact h.om k hk
  have hui : u' i = u i + d := by have := hu 0 h0; rwa [h.o0] at this
  have hwo : ∀ k ∈ a :: ord, w' k = w k := fun k hk => (hs.out k (.inr (.inr hk))).2
  have hfe : ∀ r k, 1 ≤ r → (∀ k, 1 ≤ k → k ≤ m → (k ∈ a :: ord ∨ r < i) → u r + v k ≤ c r k) → 1 ≤ k → k ≤ m → ((∃ j ∈ a :: ord, o j = r) ∨ r < i) → u' r + v' k ≤ c r k := fun r k r1 hf k1 k2 hr => by
    by_cases ht : ∃ j ∈ a :: ord, o j = r
    · obtain ⟨j, j1, rfl⟩ := ht
      rw [hu j j1]
      by_cases hk : k ∈ a :: ord
      · rw [hv k k2 hk]
        have := hf k k1 k2 (.inl hk)
        omega
      · rw [hv2 k k2 hk]
        obtain ⟨_, _, g3, _, g5⟩ := h.scan ha hs k1 k2 hk
        have := g3 j j1
        omega
    · rw [hu2 r (fun k hk e => ht ⟨k, hk, e⟩)]
      have hri : r < i := hr.resolve_left ht
      have h3 := hf k k1 k2 (.inr hri)
      by_cases hk : k ∈ a :: ord
      · rw [hv k k2 hk]
        have := x7 (hkd k hk k1)
        omega
      · rw [hv2 k k2 hk]; exact h3
  refine ⟨hi1, h.im, fun k hk => ?_, hom, x2, x3, List.nodup_cons.2 ⟨h.an, h.nd⟩, h.o0, h.ol, h.sur, h.inj, fun e => by simp at e, fun _ => h0, fun r k r1 r2 k1 k2 => ?_, fun _ k k1 k2 => ?_, fun k k1 k2 ko => ?_, fun k k1 k2 => ?_, fun k k1 k2 ko => ?_, fun r hr => ?_, ⟨fun _ => ?_, ?_⟩, fun k hk k0 => ?_, fun _ k k1 k2 hk => ?_, fun _ => ?_, ?_, h.vsb, h.c0, h.farb⟩
  · rw [hD k hk, h.dn k hk, List.mem_cons]; exact Or.comm
  · exact hfe r k r1 (fun k k1 k2 _ => h.feas r k r1 r2 k1 k2) k1 k2 (.inr r2)
  · exact hfe i k hi1 (fun k k1 k2 hk => by
      rcases hk with hk | hk
      · exact h.feasi (hkd k hk k1) k k1 k2
      · omega) k1 k2 (.inl ⟨0, h0, h.o0⟩)
  · have h3 := h.tight k k1 k2 ko
    by_cases hk : k ∈ a :: ord
    · rw [hu k hk, hv k k2 hk]; omega
    · rw [hv2 k k2 hk, hu2 (o k) (fun j hj e => by
        have := h.onj (hom j hj).1 k2 e (hom j hj).2
        exact hk (this ▸ hj))]
      exact h3
  · have h3 := h.vneg k k1 k2
    by_cases hk : k ∈ a :: ord
    · rw [hv k k2 hk]; have := x7 (hkd k hk k1); omega
    · rw [hv2 k k2 hk]; exact h3
  · rw [hv2 k k2 (fun hk => (hom k hk).2 ko)]
    exact h.vfree k k1 k2 ko
  · rw [hu2 r (fun k hk e => by have := h.oi (hom k hk).1; omega)]
    exact h.u0 r hr
  · exact (h.scan ha hs x1 x2 x3).1
  · exact Tree.congr hwo h.tree
  · by_cases hk2 : k ∈ a :: ord
    · rw [hwo k hk2]
      have h3 := h.tt k (List.mem_cons.1 hk2) k0
      have h4 := Tree.mem h.tree hk2 k0
      rw [hu _ h4, hv k (hom k hk2).1 hk2]
      omega
    · obtain rfl : k = x := hk.resolve_right hk2
      obtain ⟨g1, g2, _, _, _⟩ := h.scan ha hs x1 x2 x3
      rw [hu _ g1, hv2 k x2 x3]
      omega
  · obtain ⟨g1, g2, g3, g4, g5⟩ := h.scan ha hs k1 k2 hk
    rw [hl k k1 k2 hk, hu _ g1, hv2 k k2 hk]
    refine ⟨g1, by omega, fun j hj => ?_, by omega⟩
    rw [hu j hj]
    have := g3 j hj
    omega
  · rw [hui]
    by_cases he : ord = []
    · rw [(h.emp he).2.2]; omega
    · have := h.uilo he
      have := x7 he
      omega
  · rw [hui, hv 0 (Nat.zero_le _) h0, h.v0]; omega

/-- the owners change from a free column back to row i: q is the column whose owner is to change -/
structure Au (m : Nat) (c : Nat → Nat → Int) (i : Nat) (u v : Nat → Int) (o w : Nat → Nat) (o' : Nat → Nat) (q : Nat) (rest : List Nat) : Prop where
  qm : q ≤ m
  tree : Tree w (q :: rest)
  nd : (q :: rest).Nodup
  same : ∀ j ∈ rest, o' j = o j ∧ j ≤ m ∧ o j ≠ 0
  tt : ∀ k, k = q ∨ k ∈ rest → k ≠ 0 → u (o (w k)) + v k = c (o (w k)) k
  ol : ∀ k, k ≤ m → k ≠ q → o' k ≤ i
  sur : ∀ r, 1 ≤ r → r ≤ i → ∃ k, k ≤ m ∧ k ≠ q ∧ o' k = r
  inj : ∀ k l, k ≤ m → l ≤ m → k ≠ q → l ≠ q → o' k = o' l → o' k ≠ 0 → k = l
  tight : ∀ k, 1 ≤ k → k ≤ m → k ≠ q → o' k ≠ 0 → u (o' k) + v k = c (o' k) k
  vfree : ∀ k, 1 ≤ k → k ≤ m → k ≠ q → o' k = 0 → v k = 0
theorem Ph.exit (h : Ph m c C far vs i u v o w le D ord a) (ha : o a = 0) : Au m c i u v o w o a ord ∧ a ≠ 0 ∧ ord ≠ [] := by
  have hi1 := h.i1
  have a0 : a ≠ 0 := fun e => by rw [e, h.o0] at ha; omega
  have he : ord ≠ [] := fun e => a0 (h.emp e).1
  refine ⟨⟨h.am, h.tree, List.nodup_cons.2 ⟨h.an, h.nd⟩, fun j hj => ⟨rfl, h.om j hj⟩, h.tt, fun k k2 _ => h.oi k2, fun r r1 r2 => ?_, fun k l k2 l2 _ _ e e0 => h.onj k2 l2 e e0, fun k k1 k2 _ e => h.tight k k1 k2 e, fun k k1 k2 _ e => h.vfree k k1 k2 e⟩, a0, he⟩
  by_cases hr : r = i
  · exact ⟨0, Nat.zero_le _, fun e => a0 e.symm, by rw [hr]; exact h.o0⟩
  · obtain ⟨k, k1, k2, k3⟩ := h.sur r r1 (by omega)
    exact ⟨k, k2, fun e => by rw [e, ha] at k3; omega, k3⟩
variable {o' o2 : Nat → Nat} {q : Nat} {rest : List Nat}
theorem Au.wq (h : Au m c i u v o w o' q rest) (hq : q ≠ 0) : w q ∈ rest := h.tree.1 hq
theorem Au.step (h : Au m c i u v o w o' q rest) (hq : q ≠ 0) (h2 : ∀ k, k ≤ m → o2 k = if k = q then o' (w q) else o' k) : ∃ l2, l2.length < rest.length ∧ Au m c i u v o w o2 (w q) l2 := by
  have hw := h.tree.1 hq
  obtain ⟨hqr, hnr⟩ := List.nodup_cons.1 h.nd
  obtain ⟨l2, g1, g2, g3, g4⟩ := Tree.drop h.tree.2 hnr hw
  obtain ⟨s1, s2, s3⟩ := h.same _ hw
  have hne : w q ≠ q := fun e => hqr (e ▸ hw)
  refine ⟨l2, g4, s2, g1, g2, fun j hj => ?_, fun k hk k0 => ?_, fun k k2 kn => ?_, fun r r1 r2 => ?_, fun k l k2 l2' kn ln e e0 => ?_, fun k k1 k2 kn e0 => ?_, fun k k1 k2 kn e0 => ?_⟩
  · obtain ⟨t1, t2, t3⟩ := h.same j (g3 j hj)
    refine ⟨?_, t2, t3⟩
    rw [h2 j t2, if_neg (fun (e : j = q) => hqr (by rw [← e]; exact g3 j hj))]
    exact t1
  · refine h.tt k (.inr ?_) k0
    rcases hk with rfl | hk
    · exact hw
    · exact g3 k hk
  · rw [h2 k k2]
    split
    · exact h.ol _ s2 hne
    · exact h.ol k k2 (by assumption)
  · obtain ⟨k, k1, k2, k3⟩ := h.sur r r1 r2
    by_cases e : k = w q
    · exact ⟨q, h.qm, fun e => hne e.symm, by rw [h2 q h.qm, if_pos rfl, ← e]; exact k3⟩
    · exact ⟨k, k1, e, by rw [h2 k k1, if_neg k2]; exact k3⟩
  · rw [h2 k k2, h2 l l2'] at e
    rw [h2 k k2] at e0
    by_cases ek : k = q
    · by_cases el : l = q
      · rw [ek, el]
      · rw [if_pos ek, if_neg el] at e
        rw [if_pos ek] at e0
        exact absurd (h.inj _ _ s2 l2' hne el e e0) (fun e => ln e.symm)
    · rw [if_neg ek] at e e0
      by_cases el : l = q
      · rw [if_pos el] at e
        exact absurd (h.inj _ _ k2 s2 ek hne e e0) kn
      · rw [if_neg el] at e
        exact h.inj k l k2 l2' ek el e e0
  · rw [h2 k k2] at e0 ⊢
    by_cases ek : k = q
    · rw [if_pos ek, s1, ek]
      exact h.tt q (.inl rfl) hq
    · rw [if_neg ek] at e0 ⊢
      exact h.tight k k1 k2 ek e0
  · rw [h2 k k2] at e0
    by_cases ek : k = q
    · rw [if_pos ek, s1] at e0
      exact absurd e0 s3
    · rw [if_neg ek] at e0
      exact h.vfree k k1 k2 ek e0
/-- behind row i -/
theorem Au.out (h : Au m c i u v o w o' 0 rest) (hp : Ph m c C far vs i u v o w le D ord a) (ha : o a = 0) : Out m c C i u v o' := by
  obtain ⟨_, a0, he⟩ := hp.exit ha
  have hi1 := hp.i1
  have hub := hp.ub (r := i) hi1 (Nat.le_refl _)
  have hvs := hp.vsb
  have hv0 := hp.v0
  refine ⟨fun k k1 k2 => h.ol k k2 (by omega), fun r r1 r2 => ?_, fun k l k1 k2 l1 l2 e e0 => h.inj k l k2 l2 (by omega) (by omega) e e0, fun r k r1 r2 k1 k2 => ?_, fun k k1 k2 e0 => h.tight k k1 k2 (by omega) e0, hp.vneg, fun k k1 k2 e0 => h.vfree k k1 k2 (by omega) e0, hp.u0, .inr ⟨a, by omega, hp.am, hp.vfree a (by omega) hp.am ha⟩, ?_, hp.c0⟩
  · obtain ⟨k, k1, k2, k3⟩ := h.sur r r1 r2
    exact ⟨k, by omega, k1, k3⟩
  · by_cases hr : r = i
    · subst hr; exact hp.feasi he k k1 k2
    · exact hp.feas r k r1 (by omega) k1 k2
  · obtain ⟨j, rfl⟩ : ∃ j, i = j + 1 := ⟨i - 1, by omega⟩
    have e1 : ((j + 1 : Nat) : Int) * C = (j : Int) * C + C := by rw [Int.natCast_add, Int.add_mul]; simp
    rw [show j + 1 - 1 = j by omega] at hvs
    rw [e1, hv0]
    omega
end
end Go.Proofs.Ytoendfpfnfeccaa
