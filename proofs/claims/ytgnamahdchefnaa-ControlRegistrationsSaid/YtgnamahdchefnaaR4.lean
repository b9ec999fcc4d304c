/- What an event's function keeps in memory on its way: the state's box, what was drawn before, the past shortened. Lemmas on worlds. Conditions: none. -/
import Derived.Test.YtgnamahdchefnaaW9
namespace Go.Proofs.Ytgnamahdchefnaa
open Go.RowKit Go.Shelf

abbrev stCs (st : St) (xd xg xv xp : Value) : Array Value := #[xd, .int .u64 st.d.c, .int .u64 st.d.o, .int .i64 st.l, xg, xv, xp]
def DoPost (lo B : Nat) (st : St) (w : World) (e : Ending) (w' : World) : Prop := ∃ κ xd xg xv xp, e = .returned (.tuple #[]) ∧ BoxC w' B 42 (stCs st xd xg xv xp) ∧ StO lo κ st xd xg xv xp w' ∧ Below lo w w'
/-- a state in the box B, and beside it what was drawn before -/
structure DoMid (lo : Nat) (κ : Nat → Role) (w : World) (B B6 : Nat) (st0 st : St) (xb xd xg xv xp : Value) (X : World) : Prop where
  b : BoxC X B 42 (stCs st xd xg xv xp)
  o : StO lo κ st xd xg xv xp X
  x : RowU lo κ (8, st0.p.length, 0) xb st0.d.s X
  b6 : BoxC X B6 37 #[xb, .int .u64 st0.d.c, .int .u64 st0.d.o]
  bl : Below lo w X
  le : lo ≤ B
  ls : lo ≤ X.heap.size
  n6 : lo ≤ B6
  k6 : κ B6 ≠ (7, 0, 0)
section
variable {lo : Nat} {κ : Nat → Role} {r : Role} {e : TypeId} {size n : Nat} {v : Value} {C : Nat → Value} {w w' : World}
theorem RowX.at2 (h : RowX lo κ r e size v n C w) (hn : 0 < n) : ∃ g off cap, v = .slice (some ⟨g, off, none⟩) n cap ∧ lo ≤ g ∧ κ g = r ∧ g < w.heap.size ∧ n ≤ cap ∧ cap ≤ maxLen ∧ (∃ cur, w.heap[g]? = some (.cells cur e (0, 0))) ∧ (∀ k, k < n * size → w.cell? ⟨g, off + k, none⟩ = some (C k)) ∧ ∀ k, w.frozen? ⟨g, k, none⟩ = false := by
  rcases h with ⟨h, _⟩ | ⟨g, off, cap, cur, h1, h2, h3, h4, h5, h6, h7, h8⟩
  · omega
  · exact ⟨g, off, cap, h1, h3, h2, heap_lt h4, h5, h6, ⟨cur, h4⟩, fun k hk => by rw [cell_of_row w g _ cur e (0, 0) h4]; exact h8 k hk, fun k => frozen_of_row w g k cur e h4⟩
/-- a box of another type is another block -/
theorem BoxC.ne_row {B g : Nat} {t : TypeId} {cs : Array Value} (h : BoxC w B t cs) (hg : ∃ cur, w.heap[g]? = some (.cells cur e (0, 0))) (ht : t ≠ e) : B ≠ g := by
  intro e'
  subst e'
  obtain ⟨cur, hg⟩ := hg
  rw [show w.heap[B]? = _ from h] at hg
  cases hg
  exact ht rfl
theorem BoxC.ne_box {B B' : Nat} {t t' : TypeId} {cs cs' : Array Value} (h : BoxC w B t cs) (h' : BoxC w B' t' cs') (ht : t ≠ t') : B ≠ B' := by
  intro e'
  subst e'
  have h1 : w.heap[B]? = some (.cells cs t (0, 0)) := h
  have h2 : w.heap[B]? = some (.cells cs' t' (0, 0)) := h'
  rw [h1] at h2
  cases h2
  exact ht rfl
/-- the roles behind the first registration of the past struck -/
def kshift (κ : Nat → Role) : Nat → Role := fun b => if (κ b).1 = 8 then (if (κ b).2.1 = 0 then (10, 0, 0) else (8, (κ b).2.1 - 1, 0)) else κ b
theorem Mv.kshift (S : Nat → Prop) (hS : ∀ t, S t → t ≠ 8) : Mv lo κ w lo (Go.Proofs.Ytgnamahdchefnaa.kshift κ) w S := fun r _ _ _ _ _ h1 _ h => h.rekey (fun b _ _ h3 => by
  unfold Go.Proofs.Ytgnamahdchefnaa.kshift
  rw [h3, if_neg (hS _ h1)])
theorem PastO.drop1 {g off m cap : Nat} {ls : List Rg} (h : PastO lo κ (.slice (some ⟨g, off, none⟩) m cap) ls w) (hm : ls.length = m) (hn : 1 ≤ m) : PastO lo (kshift κ) (.slice (some ⟨g, off + 3, none⟩) (m - 1) (cap - 1)) (ls.drop 1) w := by
  obtain ⟨us, hrow, hels⟩ := h
  have hl : (ls.drop 1).length = ls.length - 1 := by simp
  subst hm
  refine ⟨fun j => us (j + 1), ?_, fun j hj => ?_⟩
  · have h1 := (Mv.kshift (fun t => t = 7) (fun t ht => by omega) _ _ _ _ _ _ rfl (by decide) hrow).drop (m := 1) hn (by omega)
    rw [hl]
    refine RowX.congr h1 (fun k hk => ?_)
    unfold regC
    rw [show (1 * 3 + k) % 3 = k % 3 by omega, show (1 * 3 + k) / 3 = k / 3 + 1 by omega, get_drop, Nat.add_comm 1 (k / 3)]
  · rw [hl] at hj
    have h2 := hels (j + 1) (by omega)
    rw [get_drop, Nat.add_comm 1 j]
    exact RowX.rekey h2 (fun b _ _ h3 => by
      unfold kshift
      rw [h3]
      simp)
theorem RegsO.len {rs : Nat → Role} {ls : List Rg} (h : RegsO lo κ r rs v ls w) : ∃ a cap, v = .slice a ls.length cap := h.rd.len
/-- a store of a number into a row of numbers -/
theorem RowU.set {g off cap : Nat} {xs : List Int} (h : RowU lo κ r (.slice (some ⟨g, off, none⟩) xs.length cap) xs w) {k : Nat} (hk : k < xs.length) (z : Int) : RowU lo κ r (.slice (some ⟨g, off, none⟩) xs.length cap) (xs.set k z) (w.setCell ⟨g, off + k, none⟩ (.int .u64 z)) := by
  unfold RowU
  rw [List.length_set]
  refine (RowX.set h (by omega) k (.int .u64 z)).congr (fun j _ => ?_)
  rw [nth_set hk]
  by_cases e : j = k
  · rw [if_pos e, if_pos e]
  · rw [if_neg e, if_neg e]
end
theorem eqB_comm (a b : Rg) : eqB a b = eqB b a := by
  cases h : eqB a b
  · cases h1 : eqB b a
    · rfl
    · rw [eqB_iff.1 h1, eqB_self] at h; cases h
  · rw [eqB_iff.1 h, eqB_self]
end Go.Proofs.Ytgnamahdchefnaa
