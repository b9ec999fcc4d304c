/- Contracts of demanded and of the reservoir's step. Conditions: numbers in the ranges that each theorem names. -/
import Derived.Test.YtbflocamicebhaaW0
namespace Go.Proofs.Ytbflocamicebhaa
open Go.RowKit

theorem IntSl.mono {w w' : World} {v : Value} {xs : List Int} (h : IntSl w v xs) (hb : Below w.heap.size w w') : IntSl w' v xs := by
  rcases h with h | ⟨b, off, cap, rfl, hc⟩
  · exact .inl h
  · exact .inr ⟨b, off, cap, rfl, fun i hi => (hb.cell (p := ⟨b, off + i, none⟩) (lt_of_cell (hc i hi))).trans (hc i hi)⟩

def demF (c l s q : Int) (xs : List Int) : Int :=
  if checkF c l s q ≠ 0 then checkF c l s q else if 2000 < xs.length then 4 else if xs.any (fun n => !windB n 1000000000) then 3 else 0

theorem IntSl.len {w : World} {v : Value} {xs : List Int} (h : IntSl w v xs) : ∃ a cap, v = .slice a xs.length cap := by
  rcases h with ⟨⟨a, cap, rfl⟩, rfl⟩ | ⟨b, off, cap, rfl, _⟩
  · exact ⟨a, cap, rfl⟩
  · exact ⟨some ⟨b, off, none⟩, cap, rfl⟩

set_option maxHeartbeats 400000 in
theorem demanded_any (c l s q : Int) (v : Value) (xs : List Int) (w : World) (hv : IntSl w v xs) (hm : xs.length ≤ 140737488355328) :
    Calls Try.prog 31 #[.agg #[.int .i64 c, .int .i64 l, .int .i64 s, .int .i64 q], v] w fun e w' => e = .returned (.int .i64 (demF c l s q xs)) ∧ Below w.heap.size w w' := by
  have hv1 := hv.mono ((Below.refl _ w).alloc (Nat.le_refl _) (.cells #[.int .i64 c, .int .i64 l, .int .i64 s, .int .i64 q] 28))
  obtain ⟨a, cap, rfl⟩ := hv.len
  clear hv
  have hD : demF c l s q xs = if checkF c l s q ≠ 0 then checkF c l s q else if 2000 < xs.length then 4 else if xs.any (fun n => !windB n 1000000000) then 3 else 0 := rfl
  have hD := Lib.hid hD
  generalize demF c l s q xs = d at hD
  generalize hch : checkF c l s q = ch at hD
  have hch := Lib.hid hch
  have hB0 := (Below.refl _ w).alloc (Nat.le_refl _) (.cells #[.int .i64 c, .int .i64 l, .int .i64 s, .int .i64 q] 28)
  go_enter Try.func31, Try.ntmps31
  go_wp2_with fail
  refine (check_any _ _ _ _ _).mono ?_
  rintro e w1 ⟨rfl, hb⟩
  have hv2 := hv1.mono hb
  have hB := hB0.trans (hb.mono (by simp))
  clear hv1 hb hB0
  rw [hch.out]
  by_cases h0 : ch = 0
  · subst h0
    by_cases h1 : 2000 < xs.length
    · go_wp2
      go_ret
      exact ⟨by rw [hD.out]; simp [h1], hB⟩
    · have hx : ∃ x, (xs.any fun n => !windB n 1000000000) = x := ⟨_, rfl⟩
      obtain ⟨x, hx⟩ := hx
      have hx := Lib.hid hx
      cases x
      all_goals
        go_wp2_with (go_at_call 42; refine (containsFunc_any _ xs _ hv2 hm).mono ?_; rintro e w' ⟨rfl, rfl⟩; rw [hx.out])
        go_ret
        exact ⟨by rw [hD.out, hx.out]; simp [h1], hB⟩
  · have h0' : (ch == 0) = false := by simpa using h0
    go_wp2
    go_ret
    exact ⟨by rw [hD.out]; simp [h0], hB⟩

/-- level, waste, missing after a tick -/
def stepF (c s level demand : Int) : Int × Int × Int :=
  if level + s - demand < 0 then (0, 0, -(level + s - demand)) else (min (level + s - demand) c, max 0 (level + s - demand - c), 0)

abbrev stV (t : Int × Int × Int) : Value := .agg #[.int .i64 t.1, .int .i64 t.2.1, .int .i64 t.2.2]

theorem stepF_neg {c s l d : Int} (h : l + s - d < 0) : stepF c s l d = (0, 0, -(l + s - d)) := by simp [stepF, h]
theorem stepF_over {c s l d : Int} (h : 0 ≤ l + s - d) (h' : c < l + s - d) : stepF c s l d = (c, l + s - d - c, 0) := by
  unfold stepF; rw [if_neg (by omega), show min (l + s - d) c = c by omega, show max 0 (l + s - d - c) = l + s - d - c by omega]
theorem stepF_ok {c s l d : Int} (h : 0 ≤ l + s - d) (h' : l + s - d ≤ c) : stepF c s l d = (l + s - d, 0, 0) := by
  unfold stepF; rw [if_neg (by omega), show min (l + s - d) c = l + s - d by omega, show max 0 (l + s - d - c) = 0 by omega]

set_option maxHeartbeats 400000 in
theorem step_any (c l s q level demand : Int) (w : World) (h1 : 0 ≤ level) (h2 : level ≤ 1000000000) (h3 : 0 ≤ s) (h4 : s ≤ 1000000000) (h5 : 0 ≤ demand) (h6 : demand ≤ 1000000000)
  (h7 : 0 ≤ c) (h8 : c ≤ 1000000000)  :
    Calls Try.prog 37 #[.agg #[.int .i64 c, .int .i64 l, .int .i64 s, .int .i64 q], .int .i64 level, .int .i64 demand] w fun e w' => 
      e = .returned (stV (stepF c s level demand)) ∧ Below w.heap.size w w' := by
  go_enter Try.func37, Try.ntmps37
  go_wp2
  · have h : level + s - demand < 0 := by assumption
    refine bodyPost_ret (v := stV (0, 0, -(level + s - demand))) (by simp [results, Try.results37, go_sem]) rfl ⟨?_, ?_⟩
    · rw [stepF_neg h]
    · exact (((Below.refl _ _).alloc (Nat.le_refl _) _).alloc (by simp) _)
  · have h : 0 ≤ level + s - demand := by assumption
    have h' : c < level + s - demand := by assumption
    refine bodyPost_ret (v := stV (c, level + s - demand - c, 0)) (by simp [results, Try.results37, go_sem]) rfl ⟨?_, ?_⟩
    · rw [stepF_over h h']
    · exact (((Below.refl _ _).alloc (Nat.le_refl _) _).alloc (by simp) _)
  · have h : 0 ≤ level + s - demand := by assumption
    have h' : level + s - demand ≤ c := by assumption
    refine bodyPost_ret (v := stV (level + s - demand, 0, 0)) (by simp [results, Try.results37, go_sem]) rfl ⟨?_, ?_⟩
    · rw [stepF_ok h h']
    · exact (((Below.refl _ _).alloc (Nat.le_refl _) _).alloc (by simp) _)

theorem stepF_range {c s l d : Int} (h1 : 0 ≤ l) (h2 : l ≤ c) (h3 : 0 ≤ s) (h4 : s ≤ 1000000000) (h5 : 0 ≤ d) (h6 : d ≤ 1000000000) (h8 : c ≤ 1000000000) :
    0 ≤ (stepF c s l d).1 ∧ (stepF c s l d).1 ≤ c ∧ 0 ≤ (stepF c s l d).2.1 ∧ (stepF c s l d).2.1 ≤ 2000000000 ∧ 0 ≤ (stepF c s l d).2.2 ∧ (stepF c s l d).2.2 ≤ d := by
  unfold stepF; split <;> simp <;> omega

end Go.Proofs.Ytbflocamicebhaa
