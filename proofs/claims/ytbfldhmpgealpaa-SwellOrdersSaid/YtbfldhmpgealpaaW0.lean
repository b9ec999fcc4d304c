/- Contracts of the small functions: within, abs, distance, far, the checks of a tremulant. Conditions: numbers in the ranges that each theorem names. -/
import Derived.Test.YtbfldhmpgealpaaRows
import Derived.Test.YtbfldhmpgealpaaScan
namespace Go.Proofs.Ytbfldhmpgealpaa
open Go.RowKit

set_option maxHeartbeats 400000 in
theorem within_any (n lo hi : Int) (w : World) :
    Calls Try.prog 38 #[.int .i64 n, .int .i64 lo, .int .i64 hi] w fun e w' => e = .returned (.bool (betw n lo hi)) ∧ w = w' := by
  by_cases h : lo ≤ n
  · go_enter Try.func38, Try.ntmps38
    go_wp2
    go_ret
    simp [betw, h]
  · have h' : n < lo := by omega
    go_enter Try.func38, Try.ntmps38
    go_wp2
    go_ret
    simp [betw]; omega

def absI (n : Int) : Int := max n (-n)
theorem absI_bd {n : Int} : 0 ≤ absI n ∧ n ≤ absI n ∧ -n ≤ absI n ∧ (absI n = n ∨ absI n = -n) := by unfold absI; omega

set_option maxHeartbeats 400000 in
theorem abs_any (n : Int) (w : World) (h : -1000000000000000000 ≤ n) (h' : n ≤ 1000000000000000000) :
    Calls Try.prog 44 #[.int .i64 n] w fun e w' => e = .returned (.int .i64 (absI n)) ∧ w = w' := by
  go_enter Try.func44, Try.ntmps44
  go_wp2
  all_goals
    go_ret
    exact ⟨ret_int (by unfold absI; omega), rfl⟩

set_option maxHeartbeats 400000 in
theorem distance_any (a b : Int) (w : World) (h1 : -500000000000000000 ≤ a) (h2 : a ≤ 500000000000000000) (h3 : -500000000000000000 ≤ b) (h4 : b ≤ 500000000000000000) :
    Calls Try.prog 29 #[.int .i64 a, .int .i64 b] w fun e w' => e = .returned (.int .i64 (absI (a - b))) ∧ w = w' := by
  go_enter Try.func29, Try.ntmps29
  go_wp2
  all_goals
    go_ret
    exact ⟨ret_int (by unfold absI; omega), rfl⟩

set_option maxHeartbeats 400000 in
theorem far_any (n : Int) (w : World) :
    Calls Try.prog 16 #[.int .i64 n] w fun e w' => e = .returned (.bool (!betw n (-1000000000) 1000000000)) ∧ w = w' := by
  by_cases h : n < -1000000000
  · go_enter Try.func16, Try.ntmps16
    go_wp2
    go_ret
    exact ⟨ret_bool (by rw [betw_false (by omega)]; rfl), rfl⟩
  · by_cases h' : 1000000000 < n
    all_goals
      go_enter Try.func16, Try.ntmps16
      go_wp2
      go_ret
      exact ⟨ret_bool (by first | rw [betw_false (by omega)]; rfl | rw [betw_true (by omega)]; rfl), rfl⟩

/-- the error of a tremulant -/
def tremF (p d f : Int) : Int :=
  if ¬ (2 ≤ p ∧ p ≤ 10000) then 3 else if p % 2 ≠ 0 then 7 else if ¬ (0 ≤ d ∧ d ≤ 1000000) ∨ ¬ (0 ≤ f ∧ f ≤ p - 1) then 3 else 0

abbrev trV (p d f : Int) : Value := .agg #[.int .i64 p, .int .i64 d, .int .i64 f]

set_option maxHeartbeats 1000000 in
theorem tremulant_any (p d f : Int) (w : World) :
    Calls Try.prog 13 #[trV p d f] w fun e w' => e = .returned (.int .i64 (tremF p d f)) ∧ Below w.heap.size w w' := by
  have hB := (Below.refl w.heap.size w).alloc (Nat.le_refl _) (.cells #[.int .i64 p, .int .i64 d, .int .i64 f] 23)
  obtain ⟨F, hF⟩ : ∃ F, tremF p d f = F := ⟨_, rfl⟩
  rw [hF]
  unfold tremF at hF
  by_cases h1 : 2 ≤ p ∧ p ≤ 10000
  · rw [if_neg (by simpa using h1)] at hF
    obtain ⟨h1, h1'⟩ := h1
    rcases Int.emod_two_eq p with h2 | h2
    · rw [if_neg (by omega)] at hF
      have h2' : (p % 2 == 1) = false := by rw [h2]; rfl
      replace hF := Lib.hid hF
      clear h2
      by_cases d0 : d < 0
      · go_enter Try.func13, Try.ntmps13
        go_wp2
        go_ret
        exact ⟨ret_int (by rw [← hF.out, if_pos (by omega)]), hB⟩
      · by_cases d1 : 1000000 < d
        · go_enter Try.func13, Try.ntmps13
          go_wp2
          go_ret
          exact ⟨ret_int (by rw [← hF.out, if_pos (by omega)]), hB⟩
        · by_cases f0 : f < 0
          · go_enter Try.func13, Try.ntmps13
            go_wp2
            go_ret
            exact ⟨ret_int (by rw [← hF.out, if_pos (by omega)]), hB⟩
          · by_cases f1 : p ≤ f
            · go_enter Try.func13, Try.ntmps13
              go_wp2
              go_ret
              exact ⟨ret_int (by rw [← hF.out, if_pos (by omega)]), hB⟩
            · go_enter Try.func13, Try.ntmps13
              go_wp2
              go_ret
              exact ⟨ret_int (by rw [← hF.out, if_neg (by omega)]), hB⟩
    · rw [if_pos (by omega)] at hF
      have h2' : (p % 2 == 1) = true := by rw [h2]; rfl
      replace hF := Lib.hid hF
      clear h2
      go_enter Try.func13, Try.ntmps13
      go_wp2
      go_ret
      exact ⟨ret_int hF.out, hB⟩
  · rw [if_pos h1] at hF
    replace hF := Lib.hid hF
    by_cases h3 : p < 2
    · clear h1
      go_enter Try.func13, Try.ntmps13
      go_wp2
      go_ret
      exact ⟨ret_int hF.out, hB⟩
    · have h4 : 10000 < p := by omega
      clear h1
      go_enter Try.func13, Try.ntmps13
      go_wp2
      go_ret
      exact ⟨ret_int hF.out, hB⟩

set_option maxHeartbeats 1000000 in
theorem CheckTremulant_any (p d f : Int) (w : World) :
    Calls Try.prog 15 #[trV p d f] w fun e w' => e = .returned (.int .i64 (tremF p d f)) ∧ Below w.heap.size w w' := by
  have hB := (Below.refl w.heap.size w).alloc (Nat.le_refl _) (.cells #[.int .i64 p, .int .i64 d, .int .i64 f] 23)
  obtain ⟨F, hF⟩ : ∃ F, tremF p d f = F := ⟨_, rfl⟩
  rw [hF]
  unfold tremF at hF
  by_cases h1 : 2 ≤ p ∧ p ≤ 10000
  · have e1 := Lib.hid (betw_true h1)
    rw [if_neg (by simpa using h1)] at hF
    obtain ⟨h1, h1'⟩ := h1
    rcases Int.emod_two_eq p with h2 | h2
    · rw [if_neg (by omega)] at hF
      have h2' : (p % 2 != 0) = false := by rw [h2]; rfl
      clear h2
      by_cases h3 : 0 ≤ d ∧ d ≤ 1000000
      · have e2 := Lib.hid (betw_true h3)
        by_cases h4 : 0 ≤ f ∧ f ≤ p - 1
        · have e3 := Lib.hid (betw_true h4)
          rw [if_neg (by omega)] at hF
          replace hF := Lib.hid hF
          clear h3 h4
          go_enter Try.func15, Try.ntmps15
          go_wp2_with (go_at_call 38; refine (within_any _ _ _ _).mono ?_; rintro e w' ⟨rfl, rfl⟩; first | rw [e1.out] | rw [e2.out] | rw [e3.out])
          go_ret
          exact ⟨ret_int hF.out, hB⟩
        · have e3 := Lib.hid (betw_false h4)
          rw [if_pos (.inr h4)] at hF
          replace hF := Lib.hid hF
          clear h3 h4
          go_enter Try.func15, Try.ntmps15
          go_wp2_with (go_at_call 38; refine (within_any _ _ _ _).mono ?_; rintro e w' ⟨rfl, rfl⟩; first | rw [e1.out] | rw [e2.out] | rw [e3.out])
          go_ret
          exact ⟨ret_int hF.out, hB⟩
      · have e2 := Lib.hid (betw_false h3)
        rw [if_pos (.inl h3)] at hF
        replace hF := Lib.hid hF
        clear h3
        go_enter Try.func15, Try.ntmps15
        go_wp2_with (go_at_call 38; refine (within_any _ _ _ _).mono ?_; rintro e w' ⟨rfl, rfl⟩; first | rw [e1.out] | rw [e2.out])
        go_ret
        exact ⟨ret_int hF.out, hB⟩
    · rw [if_pos (by omega)] at hF
      have h2' : (p % 2 != 0) = true := by rw [h2]; rfl
      replace hF := Lib.hid hF
      clear h2
      go_enter Try.func15, Try.ntmps15
      go_wp2_with (go_at_call 38; refine (within_any _ _ _ _).mono ?_; rintro e w' ⟨rfl, rfl⟩; rw [e1.out])
      go_ret
      exact ⟨ret_int hF.out, hB⟩
  · have e1 := Lib.hid (betw_false h1)
    rw [if_pos h1] at hF
    replace hF := Lib.hid hF
    clear h1
    go_enter Try.func15, Try.ntmps15
    go_wp2_with (go_at_call 38; refine (within_any _ _ _ _).mono ?_; rintro e w' ⟨rfl, rfl⟩; rw [e1.out])
    go_ret
    exact ⟨ret_int hF.out, hB⟩
end Go.Proofs.Ytbfldhmpgealpaa
