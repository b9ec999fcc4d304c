/- Plain laws of the loops of step over the nodes and their children, and what an invariant on worlds keeps. No walk. Conditions: a right plant. -/
import Derived.Test.YtfefocgekmeahaaW4
namespace Go.Proofs.Ytfefocgekmeahaa
open Go.RowKit Go.Shelf

theorem snocInd {α : Type} {p : List α → Prop} (h0 : p []) (h1 : ∀ pre x, p pre → p (pre ++ [x])) : ∀ l, p l := fun l => by
  have : ∀ r : List α, p r.reverse := by
    intro r
    induction r with
    | nil => exact h0
    | cons x r ih => rw [List.reverse_cons]; exact h1 _ _ ih
  have := this l.reverse
  rwa [List.reverse_reverse] at this
theorem keeps_own {β : Type} {B : Nat} {m : Nat → Prop} {W : World} (hB : W.heap.size ≤ B) : OwnFrom B (fun (_ : β) X => Keeps m none W X) := fun _ X Y row hs hg hr =>
  ⟨Nat.le_trans hs.size hg.size, fun k o hn hk hc => by
    have hX := hs.same k o hn hk hc
    refine (hg.block k (heap_lt hX) (fun e => ?_)).trans hX
    have h1 := (hr k e.symm).1
    have h2 := heap_lt hk
    omega, fun _ hk => .inl (fp_none.2 (fp_none.1 hk))⟩
theorem keeps_none {m : Nat → Prop} {W X : World} (hs : W.heap.size ≤ X.heap.size) (h : ∀ k o, ¬ m k → W.heap[k]? = some o → o.isCells = true → X.heap[k]? = some o) : Keeps m none W X :=
  ⟨hs, fun k o hn => h k o (fun e => hn (fp_none.2 e)), fun _ hk => .inl (fp_none.2 (fp_none.1 hk))⟩

section
variable {ns : List Nd} {lv dm : List Int}
/-- node i wants, too, what its children want -/
def adk (i : Nat) (ws : List Int) (k : Nat) : List Int := ws.set i (nth ws i + nth ws k)
def addL {n : Nat} (i : Nat) (ws : List Int) (pre : List (Fin n)) : List Int := pre.foldl (fun s k => adk i s k.val) ws
theorem addL_snoc {n : Nat} (i : Nat) (ws : List Int) (pre : List (Fin n)) (x : Fin n) : addL i ws (pre ++ [x]) = adk i (addL i ws pre) x.val := by simp [addL]
theorem addL_len {n : Nat} (i : Nat) (ws : List Int) (pre : List (Fin n)) : (addL i ws pre).length = ws.length := by
  revert ws
  induction pre with
  | nil => intro ws; rfl
  | cons x pre ih => intro ws; show (addL i (adk i ws x.val) pre).length = _; rw [ih]; simp [adk]
theorem addL_bd {n : Nat} {i : Nat} {ws : List Int} (hi : i < ws.length) (h : ∀ j, 0 ≤ nth ws j ∧ nth ws j ≤ 1000000000) : ∀ (pre : List (Fin n)) (j : Nat), 0 ≤ nth (addL i ws pre) j ∧ nth (addL i ws pre) j ≤ 1000000000 + bnd pre.length := by
  refine snocInd ?_ ?_
  · intro j; simpa [addL, bnd] using h j
  · intro pre x ih j
    rw [addL_snoc]
    unfold adk
    rw [nth_set (by rw [addL_len]; exact hi)]
    have h1 := ih i
    have h2 := ih x.val
    have h3 := ih j
    have h4 := bnd_nn pre.length
    simp only [List.length_append, List.length_singleton, bnd]
    split <;> omega
theorem set_same (ws : List Int) (i : Nat) : ws.set i (nth ws i) = ws := by
  apply List.ext_getElem?
  intro j
  rw [List.getElem?_set]
  by_cases h : i = j
  · subst h
    by_cases h2 : i < ws.length
    · simp [h2, nth]
    · simp [h2]
  · simp [h]
theorem addL_kids (hp : PlOk ns) {i : Nat} {ws : List Int} (hi : i < ws.length) : ∀ k : Nat, k ≤ ns.length → addL i ws (kidsT ns i k) = ws.set i (nth ws i + chP ns ws i k)
  | 0, _ => by
    show ws = _
    simp only [chP, Int.add_zero]
    exact (set_same ws i).symm
  | k + 1, h => by
    have ih := addL_kids hp hi k (by omega)
    by_cases hpk : (nd ns k).p = (i : Int)
    · have hne : k ≠ i := fun e => by have := (hp.p k (by omega)).2; omega
      rw [kidsT_yes (ns := ns) (k := k) (by omega) hpk, addL_snoc, ih]
      unfold adk
      simp only
      rw [nth_set hi, if_pos rfl, nth_set hi, if_neg hne, List.set_set]
      conv => rhs; unfold chP
      rw [if_pos hpk, Int.add_assoc]
    · rw [kidsT_no (ns := ns) (k := k) (by omega) hpk, ih]
      conv => rhs; unfold chP
      rw [if_neg hpk, Int.add_zero]
theorem addL_all (hp : PlOk ns) {i : Nat} {ws : List Int} (hi : i < ws.length) : addL i ws (kids ns i) = ws.set i (nth ws i + chP ns ws i ns.length) := by rw [← kidsT_all]; exact addL_kids hp hi _ (Nat.le_refl _)

/-- a node wants no more than it may take -/
def wnt (ns : List Nd) (lv ws : List Int) (i : Nat) : List Int := ws.set i (min (nd ns i).m (nth ws i + chP ns ws i ns.length + (nd ns i).c - nth lv i))
def wG (ns : List Nd) (lv dm : List Int) (pre : List (Fin ns.length)) : List Int := pre.foldl (fun s k => wnt ns lv s k.val) dm
theorem wG_snoc (pre : List (Fin ns.length)) (x : Fin ns.length) : wG ns lv dm (pre ++ [x]) = wnt ns lv (wG ns lv dm pre) x.val := by simp [wG]
theorem wG_len (pre : List (Fin ns.length)) : (wG ns lv dm pre).length = dm.length := by
  revert pre
  exact snocInd rfl (fun pre x ih => by rw [wG_snoc]; simp [wnt, ih])
theorem wG_bd (hp : PlOk ns) (hl : LvOk ns lv) (hd : DmOk ns dm) (pre : List (Fin ns.length)) : ∀ j, 0 ≤ nth (wG ns lv dm pre) j ∧ nth (wG ns lv dm pre) j ≤ 1000000000 := by
  revert pre
  refine snocInd hd.all ?_
  · intro pre x ih j
    rw [wG_snoc]
    unfold wnt
    rw [nth_set (by rw [wG_len, hd.len]; exact x.isLt)]
    split
    · have h1 := ih x.val
      have h2 := (chP_bd (ns := ns) (i := ((x.val : Nat) : Int)) ih ns.length).1
      have h3 := hp.m x.val x.isLt
      have h4 := hl.r x.val x.isLt
      omega
    · exact ih j
theorem wG_back : ∀ r : Nat, r ≤ ns.length → wG ns lv dm (backT ns.length r) = wT ns lv dm r
  | 0, _ => rfl
  | r + 1, h => by
    have ih := wG_back r (by omega)
    have e := backT_succ (n := ns.length) (k := ns.length - (r + 1)) (by omega)
    rw [show ns.length - (ns.length - (r + 1)) = r + 1 by omega, show ns.length - (ns.length - (r + 1) + 1) = r by omega] at e
    rw [e, wG_snoc, ih]
    rfl
end
end Go.Proofs.Ytfefocgekmeahaa
