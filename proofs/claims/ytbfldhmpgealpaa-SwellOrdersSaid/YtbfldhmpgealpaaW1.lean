/- Contracts of both shake functions, and of Shake. Conditions: a right tremulant, ticks in range. -/
import Derived.Test.YtbfldhmpgealpaaW0
import Derived.BigQuiet
import Derived.Deep.QuietTactic
namespace Go.Proofs.Ytbfldhmpgealpaa
open Go.RowKit

theorem tmod_fix {a p : Int} (h : 0 < p) : (a.tmod p < 0 → a.tmod p + p = a % p) ∧ (0 ≤ a.tmod p → a.tmod p = a % p) ∧ -p < a.tmod p ∧ a.tmod p < p := by
  have h1 := Int.mul_tdiv_add_tmod a p
  have h2 : a % p = (a.tmod p) % p := by
    have : a = a.tmod p + p * a.tdiv p := by omega
    rw [show a % p = (a.tmod p + p * a.tdiv p) % p by rw [← this], Int.add_mul_emod_self_left]
  have h3 : a.tmod p < p := Int.tmod_lt_of_pos a h
  have h4 : -p < a.tmod p := by
    have := Int.lt_tmod_of_pos a h
    omega
  refine ⟨fun h5 => ?_, fun h5 => ?_, h4, h3⟩
  · rw [h2, ← Int.add_emod_right (a.tmod p) p, Int.emod_eq_of_lt (by omega) (by omega)]
  · rw [h2, Int.emod_eq_of_lt h5 h3]

/-- the deviation of a right tremulant -/
def shakeF (p d f t : Int) : Int := (d * (p - absI (4 * ((t - f) % p) - 2 * p))).tdiv p

/-- a right tremulant -/
structure TrOk (p d f : Int) : Prop where
  p0 : 2 ≤ p
  p1 : p ≤ 10000
  p2 : p % 2 = 0
  d0 : 0 ≤ d
  d1 : d ≤ 1000000
  f0 : 0 ≤ f
  f1 : f ≤ p - 1

theorem trOk_of {p d f : Int} (h : tremF p d f = 0) : TrOk p d f := by
  unfold tremF at h
  split at h
  · cases h
  · split at h
    · cases h
    · split at h
      · cases h
      · rename_i h1 h2 h3
        exact ⟨by omega, by omega, by omega, by omega, by omega, by omega, by omega⟩

theorem mul_bd {d m : Int} (h0 : 0 ≤ d) (h1 : d ≤ 1000000) (m0 : -10000 ≤ m) (m1 : m ≤ 10000) : -10000000000 ≤ d * m ∧ d * m ≤ 10000000000 := by
  have a1 : d * m ≤ d * 10000 := Int.mul_le_mul_of_nonneg_left m1 h0
  have a2 : d * (-10000) ≤ d * m := Int.mul_le_mul_of_nonneg_left m0 h0
  omega

set_option maxHeartbeats 1000000 in
theorem shake_any (p d f t : Int) (h : TrOk p d f) (w : World) (t0 : -2000000000 ≤ t) (t1 : t ≤ 2000000000) :
    Calls Try.prog 39 #[trV p d f, .int .i64 t] w fun e w' => e = .returned (.int .i64 (shakeF p d f t)) ∧ Below w.heap.size w w' := by
  obtain ⟨p0, p1, _, d0, d1, f0, f1⟩ := h
  have hB := (Below.refl w.heap.size w).alloc (Nat.le_refl _) (.cells #[.int .i64 p, .int .i64 d, .int .i64 f] 23)
  obtain ⟨x0, hx0⟩ : ∃ x0, (t - f).tmod p = x0 := ⟨_, rfl⟩
  obtain ⟨q1, q2, q3, q4⟩ := tmod_fix (a := t - f) (p := p) (by omega)
  obtain ⟨F, hF⟩ : ∃ F, shakeF p d f t = F := ⟨_, rfl⟩
  rw [hF]
  unfold shakeF at hF
  rw [hx0] at q1 q2 q3 q4
  have hpz : (p == 0) = false := by simp; omega
  have main : ∀ x, (t - f) % p = x → 0 ≤ x → x < p → ∃ m r, absI (4 * x - 2 * p) = m ∧ 0 ≤ m ∧ m ≤ 2 * p ∧ (d * (p - m)).tdiv p = F ∧ d * (p - m) = r ∧ -10000000000 ≤ r ∧ r ≤ 10000000000 := by
    intro x hx hx1 hx2
    rw [hx] at hF
    have ha := @absI_bd (4 * x - 2 * p)
    have hb := mul_bd (d := d) (m := p - absI (4 * x - 2 * p)) d0 d1 (by omega) (by omega)
    exact ⟨_, _, rfl, by omega, by omega, hF, rfl, hb.1, hb.2⟩
  replace hF := Lib.hid hF
  by_cases hs : x0 < 0
  · have hx := q1 hs
    obtain ⟨m, r, a1, a2, a3, a4, a5, a6, a7⟩ := main (x0 + p) hx.symm (by omega) (by omega)
    have e7 : IntKind.i64.wrap ((d * (p - m)).tdiv p) = F := by
      have := tdiv_abs (d * (p - m)) p
      rw [← a4]
      exact IntWalk.i64_in _ (by omega)
    replace hx := Lib.hid hx; replace a1 := Lib.hid a1; replace a4 := Lib.hid a4
    replace a5 : Hid _ := a5
    clear main q1 q2
    go_enter Try.func39, Try.ntmps39
    go_wp2_with fail
    have e2 : IntKind.i64.wrap (4 * (x0 + p)) = 4 * (x0 + p) := IntWalk.i64_in _ (by omega)
    have e3 : IntKind.i64.wrap (2 * p) = 2 * p := IntWalk.i64_in _ (by omega)
    have e4 : IntKind.i64.wrap (4 * (x0 + p) - 2 * p) = 4 * (x0 + p) - 2 * p := IntWalk.i64_in _ (by omega)
    have e5 : IntKind.i64.wrap (p - m) = p - m := IntWalk.i64_in _ (by omega)
    have e6 : IntKind.i64.wrap (d * (p - m)) = d * (p - m) := IntWalk.i64_in _ (by rw [a5.out]; omega)
    have hcl : ∀ n : Nat, Calls Try.prog 44 #[.int .i64 (4 * (x0 + p) - 2 * p)] ((w.alloc (Obj.cells #[Value.int IntKind.i64 p, Value.int IntKind.i64 d, Value.int IntKind.i64 f] 23)).drewN n) fun e w' => e = .returned (.int .i64 m) ∧ _ = w' := fun n => by
      have := abs_any (4 * (x0 + p) - 2 * p) ((w.alloc (Obj.cells #[Value.int IntKind.i64 p, Value.int IntKind.i64 d, Value.int IntKind.i64 f] 23)).drewN n) (by omega) (by omega)
      rwa [a1.out] at this
    replace hcl := Lib.hid hcl
    go_quiet ((go_at_call 44; exact quiet_left (hcl.out _)))
    go_wp2
    go_ret
    exact ⟨rfl, below_drewN hB _⟩
  · have hx := q2 (by omega)
    obtain ⟨m, r, a1, a2, a3, a4, a5, a6, a7⟩ := main x0 hx.symm (by omega) (by omega)
    have e7 : IntKind.i64.wrap ((d * (p - m)).tdiv p) = F := by
      have := tdiv_abs (d * (p - m)) p
      rw [← a4]
      exact IntWalk.i64_in _ (by omega)
    replace hx := Lib.hid hx; replace a1 := Lib.hid a1; replace a4 := Lib.hid a4
    replace a5 : Hid _ := a5
    clear main q1 q2
    go_enter Try.func39, Try.ntmps39
    go_wp2_with fail
    have e2 : IntKind.i64.wrap (4 * x0) = 4 * x0 := IntWalk.i64_in _ (by omega)
    have e3 : IntKind.i64.wrap (2 * p) = 2 * p := IntWalk.i64_in _ (by omega)
    have e4 : IntKind.i64.wrap (4 * x0 - 2 * p) = 4 * x0 - 2 * p := IntWalk.i64_in _ (by omega)
    have e5 : IntKind.i64.wrap (p - m) = p - m := IntWalk.i64_in _ (by omega)
    have e6 : IntKind.i64.wrap (d * (p - m)) = d * (p - m) := IntWalk.i64_in _ (by rw [a5.out]; omega)
    have hcl : ∀ n : Nat, Calls Try.prog 44 #[.int .i64 (4 * x0 - 2 * p)] ((w.alloc (Obj.cells #[Value.int IntKind.i64 p, Value.int IntKind.i64 d, Value.int IntKind.i64 f] 23)).drewN n) fun e w' => e = .returned (.int .i64 m) ∧ _ = w' := fun n => by
      have := abs_any (4 * x0 - 2 * p) ((w.alloc (Obj.cells #[Value.int IntKind.i64 p, Value.int IntKind.i64 d, Value.int IntKind.i64 f] 23)).drewN n) (by omega) (by omega)
      rwa [a1.out] at this
    replace hcl := Lib.hid hcl
    go_quiet ((go_at_call 44; exact quiet_left (hcl.out _)))
    go_wp2
    go_ret
    exact ⟨rfl, below_drewN hB _⟩

set_option maxHeartbeats 1000000 in
theorem lawShake_any (p d f t : Int) (h : TrOk p d f) (w : World) (t0 : -2000000000 ≤ t) (t1 : t ≤ 2000000000) :
    Calls Try.prog 17 #[trV p d f, .int .i64 t] w fun e w' => e = .returned (.int .i64 (shakeF p d f t)) ∧ Below w.heap.size w w' := by
  obtain ⟨p0, p1, _, d0, d1, f0, f1⟩ := h
  have hB := (Below.refl w.heap.size w).alloc (Nat.le_refl _) (.cells #[.int .i64 p, .int .i64 d, .int .i64 f] 23)
  obtain ⟨x0, hx0⟩ : ∃ x0, (t - f).tmod p = x0 := ⟨_, rfl⟩
  obtain ⟨q1, q2, q3, q4⟩ := tmod_fix (a := t - f) (p := p) (by omega)
  obtain ⟨F, hF⟩ : ∃ F, shakeF p d f t = F := ⟨_, rfl⟩
  rw [hF]
  unfold shakeF at hF
  rw [hx0] at q1 q2 q3 q4
  have hpz : (p == 0) = false := by simp; omega
  have main : ∀ x, (t - f) % p = x → 0 ≤ x → x < p → ∃ m r, absI (4 * x - 2 * p) = m ∧ 0 ≤ m ∧ m ≤ 2 * p ∧ (d * (p - m)).tdiv p = F ∧ d * (p - m) = r ∧ -10000000000 ≤ r ∧ r ≤ 10000000000 := by
    intro x hx hx1 hx2
    rw [hx] at hF
    have ha := @absI_bd (4 * x - 2 * p)
    have hb := mul_bd (d := d) (m := p - absI (4 * x - 2 * p)) d0 d1 (by omega) (by omega)
    exact ⟨_, _, rfl, by omega, by omega, hF, rfl, hb.1, hb.2⟩
  replace hF := Lib.hid hF
  by_cases hs : x0 < 0
  · have hx := q1 hs
    obtain ⟨m, r, a1, a2, a3, a4, a5, a6, a7⟩ := main (x0 + p) hx.symm (by omega) (by omega)
    have e7 : IntKind.i64.wrap ((d * (p - m)).tdiv p) = F := by
      have := tdiv_abs (d * (p - m)) p
      rw [← a4]
      exact IntWalk.i64_in _ (by omega)
    replace hx := Lib.hid hx; replace a1 := Lib.hid a1; replace a4 := Lib.hid a4
    replace a5 : Hid _ := a5
    clear main q1 q2
    go_enter Try.func17, Try.ntmps17
    go_wp2_with fail
    have e2 : IntKind.i64.wrap (4 * (x0 + p)) = 4 * (x0 + p) := IntWalk.i64_in _ (by omega)
    have e3 : IntKind.i64.wrap (2 * p) = 2 * p := IntWalk.i64_in _ (by omega)
    have e4 : IntKind.i64.wrap (4 * (x0 + p) - 2 * p) = 4 * (x0 + p) - 2 * p := IntWalk.i64_in _ (by omega)
    have e5 : IntKind.i64.wrap (p - m) = p - m := IntWalk.i64_in _ (by omega)
    have e6 : IntKind.i64.wrap (d * (p - m)) = d * (p - m) := IntWalk.i64_in _ (by rw [a5.out]; omega)
    have hcl : ∀ n : Nat, Calls Try.prog 29 #[.int .i64 (4 * (x0 + p)), .int .i64 (2 * p)] ((w.alloc (Obj.cells #[Value.int IntKind.i64 p, Value.int IntKind.i64 d, Value.int IntKind.i64 f] 23)).drewN n) fun e w' => e = .returned (.int .i64 m) ∧ _ = w' := fun n => by
      have := distance_any (4 * (x0 + p)) (2 * p) ((w.alloc (Obj.cells #[Value.int IntKind.i64 p, Value.int IntKind.i64 d, Value.int IntKind.i64 f] 23)).drewN n) (by omega) (by omega) (by omega) (by omega)
      rwa [a1.out] at this
    replace hcl := Lib.hid hcl
    go_quiet ((go_at_call 29; exact quiet_left (hcl.out _)))
    go_wp2
    go_ret
    exact ⟨rfl, below_drewN hB _⟩
  · have hx := q2 (by omega)
    obtain ⟨m, r, a1, a2, a3, a4, a5, a6, a7⟩ := main x0 hx.symm (by omega) (by omega)
    have e7 : IntKind.i64.wrap ((d * (p - m)).tdiv p) = F := by
      have := tdiv_abs (d * (p - m)) p
      rw [← a4]
      exact IntWalk.i64_in _ (by omega)
    replace hx := Lib.hid hx; replace a1 := Lib.hid a1; replace a4 := Lib.hid a4
    replace a5 : Hid _ := a5
    clear main q1 q2
    go_enter Try.func17, Try.ntmps17
    go_wp2_with fail
    have e2 : IntKind.i64.wrap (4 * x0) = 4 * x0 := IntWalk.i64_in _ (by omega)
    have e3 : IntKind.i64.wrap (2 * p) = 2 * p := IntWalk.i64_in _ (by omega)
    have e4 : IntKind.i64.wrap (4 * x0 - 2 * p) = 4 * x0 - 2 * p := IntWalk.i64_in _ (by omega)
    have e5 : IntKind.i64.wrap (p - m) = p - m := IntWalk.i64_in _ (by omega)
    have e6 : IntKind.i64.wrap (d * (p - m)) = d * (p - m) := IntWalk.i64_in _ (by rw [a5.out]; omega)
    have hcl : ∀ n : Nat, Calls Try.prog 29 #[.int .i64 (4 * x0), .int .i64 (2 * p)] ((w.alloc (Obj.cells #[Value.int IntKind.i64 p, Value.int IntKind.i64 d, Value.int IntKind.i64 f] 23)).drewN n) fun e w' => e = .returned (.int .i64 m) ∧ _ = w' := fun n => by
      have := distance_any (4 * x0) (2 * p) ((w.alloc (Obj.cells #[Value.int IntKind.i64 p, Value.int IntKind.i64 d, Value.int IntKind.i64 f] 23)).drewN n) (by omega) (by omega) (by omega) (by omega)
      rwa [a1.out] at this
    replace hcl := Lib.hid hcl
    go_quiet ((go_at_call 29; exact quiet_left (hcl.out _)))
    go_wp2
    go_ret
    exact ⟨rfl, below_drewN hB _⟩


theorem shakeF_bd (p d f t : Int) (h : TrOk p d f) : -d ≤ shakeF p d f t ∧ shakeF p d f t ≤ d := by
  obtain ⟨p0, p1, _, d0, d1, f0, f1⟩ := h
  unfold shakeF
  have hx0 := Int.emod_nonneg (t - f) (show p ≠ 0 by omega)
  have hx1 := Int.emod_lt_of_pos (t - f) (show 0 < p by omega)
  generalize (t - f) % p = x at hx0 hx1 ⊢
  have ha := @absI_bd (4 * x - 2 * p)
  have m0 : -p ≤ p - absI (4 * x - 2 * p) := by omega
  have m1 : p - absI (4 * x - 2 * p) ≤ p := by omega
  generalize p - absI (4 * x - 2 * p) = m at m0 m1 ⊢
  have a1 : d * m ≤ d * p := Int.mul_le_mul_of_nonneg_left m1 d0
  have a2 : d * (-p) ≤ d * m := Int.mul_le_mul_of_nonneg_left m0 d0
  rw [Int.mul_neg] at a2
  have e := Int.mul_tdiv_add_tmod (d * m) p
  obtain ⟨_, _, r0, r1⟩ := tmod_fix (a := d * m) (p := p) (by omega)
  generalize (d * m).tdiv p = q at e ⊢
  generalize (d * m).tmod p = r at e r0 r1
  rw [Int.mul_comm d p] at a1 a2
  generalize d * m = y at a1 a2 e
  constructor
  · rcases Int.lt_or_le q (-d) with h | h
    · have b := Int.mul_le_mul_of_nonneg_left (show q ≤ -d - 1 by omega) (show 0 ≤ p by omega)
      rw [Int.mul_sub, Int.mul_neg] at b
      omega
    · exact h
  · rcases Int.lt_or_le d q with h | h
    · have b := Int.mul_le_mul_of_nonneg_left (show d + 1 ≤ q by omega) (show 0 ≤ p by omega)
      rw [Int.mul_add] at b
      omega
    · exact h
end Go.Proofs.Ytbfldhmpgealpaa
