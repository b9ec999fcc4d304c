/- Plain laws of the loop that carries: any order keeps the bounds, the order from the last node on gives what is carried. No walk. Conditions: a right plant and demand. -/
import Derived.Test.YtfefocgekmeahaaP3
import Derived.Test.YtfefocgekmeahaaW2
namespace Go.Proofs.Ytfefocgekmeahaa

/-- a round at node i: what the nodes carry, and what all carry -/
def cSt (ns : List Nd) (dm : List Int) (k : Int) (s : List Int × Int) (i : Nat) : List Int × Int :=
  if (nd ns i).p < 0 then (s.1.set i (nth s.1 i + scl dm k i), s.2 + (nth s.1 i + scl dm k i))
  else ((s.1.set i (nth s.1 i + scl dm k i)).set (nd ns i).p.toNat (nth s.1 (nd ns i).p.toNat + (nth s.1 i + scl dm k i)), s.2)
def cG (ns : List Nd) (dm : List Int) (k : Int) (pre : List (Fin ns.length)) : List Int × Int := pre.foldl (fun s i => cSt ns dm k s i.val) (zeros ns.length, 0)
def CBd (n : Nat) (B : Int) (s : List Int × Int) : Prop := s.1.length = n ∧ (∀ j, 0 ≤ nth s.1 j ∧ nth s.1 j ≤ B) ∧ 0 ≤ s.2 ∧ s.2 ≤ B
section
variable {ns : List Nd} {dm : List Int} {k : Int}
theorem cG_snoc (pre : List (Fin ns.length)) (x : Fin ns.length) : cG ns dm k (pre ++ [x]) = cSt ns dm k (cG ns dm k pre) x.val := by simp [cG]
theorem cSt_bd (hp : PlOk ns) (hd : DmOk ns dm) (h0 : 0 ≤ k) (h1 : k ≤ 1000) {s : List Int × Int} {B : Int} (h : CBd ns.length B s) {i : Nat} (hi : i < ns.length) : CBd ns.length (B + (1000000000 + B)) (cSt ns dm k s i) := by
  obtain ⟨g1, g2, g3, g4⟩ := h
  have hs := scl_bd hd h0 h1 i
  have hpi := hp.p i hi
  have g5 := g2 i
  unfold cSt
  split
  · refine ⟨by simp [g1], fun j => ?_, by show 0 ≤ s.2 + (nth s.1 i + scl dm k i); omega, by show s.2 + (nth s.1 i + scl dm k i) ≤ _; omega⟩
    rw [nth_set (by omega)]
    have := g2 j
    split <;> omega
  · refine ⟨by simp [g1], fun j => ?_, g3, by show s.2 ≤ _; omega⟩
    rw [nth_set (by simp; omega), nth_set (by omega)]
    have := g2 j
    have := g2 (nd ns i).p.toNat
    split
    · omega
    · split <;> omega
theorem cF_fold_bd (hp : PlOk ns) (hd : DmOk ns dm) (h0 : 0 ≤ k) (h1 : k ≤ 1000) : ∀ (pre : List (Fin ns.length)) (s : List Int × Int) (r : Nat), CBd ns.length (bnd r) s → CBd ns.length (bnd (r + pre.length)) (pre.foldl (fun s i => cSt ns dm k s i.val) s)
  | [], s, r, h => h
  | x :: pre, s, r, h => by
    have h2 := cSt_bd hp hd h0 h1 h x.isLt
    have h3 := cF_fold_bd hp hd h0 h1 pre (cSt ns dm k s x.val) (r + 1) h2
    rw [List.length_cons, show r + (pre.length + 1) = r + 1 + pre.length by omega]
    exact h3
theorem cG_bd (hp : PlOk ns) (hd : DmOk ns dm) (h0 : 0 ≤ k) (h1 : k ≤ 1000) (pre : List (Fin ns.length)) : CBd ns.length (bnd pre.length) (cG ns dm k pre) := by
  have h := cF_fold_bd hp hd h0 h1 pre (zeros ns.length, 0) 0 ⟨zeros_len _, fun j => by rw [nth_zeros]; exact ⟨Int.le_refl _, Int.le_refl _⟩, Int.le_refl _, Int.le_refl _⟩
  rw [Nat.zero_add] at h
  exact h
theorem cG_back (hp : PlOk ns) (hd : DmOk ns dm) (h0 : 0 ≤ k) (h1 : k ≤ 1000) : ∀ r : Nat, r ≤ ns.length → CInv ns dm k (cG ns dm k (backT ns.length r)).1 r ∧ (cG ns dm k (backT ns.length r)).2 = chQ ns (cF ns dm k) (-1) r
  | 0, _ => ⟨CInv.start (fun j => by show nth (zeros ns.length) j = 0; exact nth_zeros _ _), rfl⟩
  | r + 1, hr => by
    obtain ⟨i, hi⟩ : ∃ i, i = ns.length - (r + 1) := ⟨_, rfl⟩
    have hin : i < ns.length := by omega
    have hb := backT_succ hin
    have e1 : ns.length - i = r + 1 := by omega
    have e2 : ns.length - (i + 1) = r := by omega
    obtain ⟨ih, ih2⟩ := cG_back hp hd h0 h1 r (by omega)
    have hl := (cG_bd hp hd h0 h1 (backT ns.length r)).1
    rw [e1, e2] at hb
    rw [hb, cG_snoc]
    generalize cG ns dm k (backT ns.length r) = s at ih ih2 hl
    have ih' := ih
    rw [← e2] at ih'
    have hv := ih'.val hp hin
    have hpi := hp.p i hin
    simp only [cSt]
    rw [hv]
    split
    · rename_i hq
      refine ⟨?_, ?_⟩
      · have := ih'.root (by omega) hin hq
        rw [e1] at this
        exact this
      · have := all_root hin (by omega) (cF ns dm k)
        rw [e1, e2] at this
        rw [this, ← ih2]
    · rename_i hq
      refine ⟨?_, ?_⟩
      · have := ih'.child hp (q := (nd ns i).p.toNat) (by omega) hin (by omega)
        rw [e1] at this
        exact this
      · have := all_child hin (by omega) (cF ns dm k)
        rw [e1, e2] at this
        rw [this, ← ih2]
/-- behind the whole loop -/
theorem cG_all (hp : PlOk ns) (hd : DmOk ns dm) (h0 : 0 ≤ k) (h1 : k ≤ 1000) (sup : Int) : limS ns sup (cG ns dm k (backT ns.length ns.length)).1 (cG ns dm k (backT ns.length ns.length)).2 0 = btF ns sup dm k := by
  obtain ⟨h, h2⟩ := cG_back hp hd h0 h1 ns.length (Nat.le_refl _)
  unfold btF
  rw [h2]
  exact limS_congr (fun j hj => h.hi j (by omega) hj) ns.length 0 (by omega)
end
end Go.Proofs.Ytfefocgekmeahaa
