/- Numbers of a state's rows turned in place: what stays. Lemmas on worlds; no program. Conditions: none. -/
import Derived.Test.YtgnamahdchefnaaBD
namespace Go.Proofs.Ytgnamahdchefnaa
open Go.RowKit Go.Shelf

/-- behind stores of numbers into rows of numbers whose roles are in R: all blocks have their shapes, and numbers stay numbers -/
structure Sh (lo : Nat) (κ : Nat → Role) (R : Role → Prop) (W X : World) : Prop where
  fr : Fr lo κ R W X
  oth : Oth 35 W X
  ints : ∀ (g : Nat) (cur : Array Value), W.heap[g]? = some (.cells cur 35 (0, 0)) → ∃ cur' : Array Value, X.heap[g]? = some (.cells cur' 35 (0, 0)) ∧ cur'.size = cur.size ∧ ∀ (k : Nat) (n : Int), cur[k]? = some (.int .u64 n) → ∃ n' : Int, cur'[k]? = some (.int .u64 n')
section
variable {lo : Nat} {κ : Nat → Role} {R : Role → Prop} {W X X' : World}
theorem Sh.refl (lo : Nat) (κ : Nat → Role) (R : Role → Prop) (W : World) : Sh lo κ R W W := ⟨Fr.refl _ _ _ _, fun _ _ _ _ _ _ => rfl, fun _ cur h => ⟨cur, h, rfl, fun _ n h => ⟨n, h⟩⟩⟩
theorem Sh.below (h : Sh lo κ R W X) (hb : Below X.heap.size X X') : Sh lo κ R W X' :=
  ⟨h.fr.trans (.of hb), fun b cs t fr h1 h2 => (hb.block b (by have h3 := heap_lt h1; have := h.fr.size; omega)).trans (h.oth b cs t fr h1 h2), fun g cur h1 => by
    obtain ⟨cur', a1, a2, a3⟩ := h.ints g cur h1
    exact ⟨cur', (hb.block g (heap_lt a1)).trans a1, a2, a3⟩⟩
theorem Sh.set {g : Nat} {cur : Array Value} (h : Sh lo κ R W X) (hW : W.heap[g]? = some (.cells cur 35 (0, 0))) (hg : lo ≤ g) (hR : R (κ g)) (o : Nat) (z : Int) : Sh lo κ R W (X.setCell ⟨g, o, none⟩ (.int .u64 z)) := by
  refine ⟨h.fr.trans (Fr.set hg hR _ _), fun b cs t fr h1 h2 => (Below.heap_setCell X _ _ b (fun e => ?_)).trans (h.oth b cs t fr h1 h2), fun b c h1 => ?_⟩
  · have e' : b = g := e
    subst e'
    rw [hW] at h1
    cases h1
    exact h2 rfl
  · obtain ⟨cur', a1, a2, a3⟩ := h.ints b c h1
    by_cases e : b = g
    · subst e
      refine ⟨cur'.setIfInBounds o (.int .u64 z), heap_setCell_same X b o cur' 35 _ a1, by simpa using a2, fun k n hk => ?_⟩
      obtain ⟨n', hn'⟩ := a3 k n hk
      rw [Array.getElem?_setIfInBounds]
      split
      · rename_i e2
        subst e2
        rw [if_pos (Array.getElem?_eq_some_iff.1 hn').1]
        exact ⟨z, rfl⟩
      · exact ⟨n', hn'⟩
    · exact ⟨cur', (Below.heap_setCell X _ _ b e).trans a1, a2, a3⟩
/-- a row of numbers: where it lies, and what may be done there -/
theorem Sh.row {r : Role} {v : Value} {xs : List Int} (hrow : RowU lo κ r v xs W) (hR : R r) (hn : 0 < xs.length) : ∃ (g off cap : Nat), v = .slice (some ⟨g, off, none⟩) xs.length cap ∧
    ∀ X, Sh lo κ R W X → ∀ q, q < xs.length → (∃ n, X.cell? ⟨g, off + q, none⟩ = some (.int .u64 n)) ∧ X.frozen? ⟨g, off + q, none⟩ = false ∧ (∀ z, Sh lo κ R W (X.setCell ⟨g, off + q, none⟩ (.int .u64 z))) ∧ ∀ B t cs, BoxC X B t cs → t ≠ 35 → B ≠ g := by
  rcases hrow with ⟨h, _⟩ | ⟨g, off, cap, cur, h1, h2, h3, h4, h5, h6, h7, h8⟩
  · omega
  · refine ⟨g, off, cap, h1, fun X hs q hq => ?_⟩
    obtain ⟨cur', a1, a2, a3⟩ := hs.ints g cur h4
    obtain ⟨n, hn'⟩ := a3 (off + q) _ (h8 q (by omega))
    refine ⟨⟨n, by rw [cell_of_row X g _ cur' 35 (0, 0) a1]; exact hn'⟩, frozen_of_row X g _ cur' 35 a1, fun z => hs.set h4 h3 (by rw [h2]; exact hR) _ z, fun B t cs hB ht e => ?_⟩
    subst e
    rw [show X.heap[B]? = _ from hB] at a1
    cases a1
    exact ht rfl
theorem Sh.box {B : Nat} {t : TypeId} {cs : Array Value} (h : Sh lo κ R W X) (hB : BoxC W B t cs) (ht : t ≠ 35) : BoxC X B t cs := (h.oth B cs t (0, 0) hB ht).trans hB
theorem Sh.mv (h : Sh lo κ R W X) (S : Nat → Prop) (hS : ∀ r : Role, S r.1 → ¬ R r) : Mv lo κ W lo κ X S := Mv.fr S h.fr hS
/-- rows of another owner, in blocks that no role of R has -/
theorem Fr.far {lo2 : Nat} {κ2 : Nat → Role} (h : Fr lo κ R W X) (hf : ∀ b, lo2 ≤ b → ¬ R (κ b)) (S : Nat → Prop) : Mv lo2 κ2 W lo2 κ2 X S := fun _ _ _ _ _ _ _ _ hr => hr.heap (fun g _ hg _ h3 => h.block g (heap_lt h3) (.inr (hf g hg)))
/-- roles below N, one role from N on -/
def kapB (κ : Nat → Role) (N : Nat) : Nat → Role := kfrom κ N (20, 0, 0)
theorem LMid.rekey {κ' : Nat → Role} {B : Nat} {st : St} {xd xg xv xp : Value} (M : LMid lo κ W B st xd xg xv xp X) (hk : ∀ b, b < X.heap.size → κ' b = κ b) : LMid lo κ' W B st xd xg xv xp X :=
  ⟨M.b, M.o.mv (Mv.rekey _ (fun b _ h _ => hk b h)), M.bl, M.le, M.ls⟩
/-- another state's box is turned -/
theorem LMid.far3 {B B2 : Nat} {st : St} {xd xg xv xp : Value} {cs : Array Value} (M : LMid lo κ W B st xd xg xv xp X) (hB : BoxC X B2 42 cs) (hne : B ≠ B2) (hle : lo ≤ B2) (u0 u1 u2 : Value) : LMid lo κ W B st xd xg xv xp (put3 X B2 u0 u1 u2) := by
  have m1 := fun S => Mv.box (lo := lo) (κ := κ) S hB 0 u0
  have b1 := hB.set 0 u0
  have m2 := fun S => Mv.box (lo := lo) (κ := κ) S b1 1 u1
  have b2 := b1.set 1 u1
  have m3 := fun S => Mv.box (lo := lo) (κ := κ) S b2 2 u2
  exact ⟨(heap_put3 _ _ _ hne).trans M.b, M.o.mv (((m1 _).trans (m2 _)).trans (m3 _)), below_put3 _ _ _ M.bl hle, M.le, Nat.le_trans M.ls (by simp)⟩
end
end Go.Proofs.Ytgnamahdchefnaa
