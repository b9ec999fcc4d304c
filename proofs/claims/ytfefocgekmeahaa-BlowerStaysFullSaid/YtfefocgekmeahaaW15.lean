/- The contract of sort.Search, over a function of the program that keeps a relation on the world. Conditions: at most 2^62 places. -/
import Derived.Test.YtfefocgekmeahaaW14
namespace Go.Proofs.Ytfefocgekmeahaa
open Go.RowKit Go.Shelf

/-- a place at which fn turns: false just below it, true at it -/
def SearchPost (J : World → Prop) (fn : Nat → Bool) (N : Nat) (e : Ending) (w' : World) : Prop :=
  ∃ k : Nat, k ≤ N ∧ e = .returned (.int .i64 k) ∧ (∀ j, j + 1 = k → fn j = false) ∧ (k < N → fn k = true) ∧ J w'

theorem half (i j : Nat) (h1 : i < j) : i ≤ (i + j) / 2 ∧ (i + j) / 2 < j := by omega

set_option maxHeartbeats 2000000 in
theorem search_any (g : Nat) (lb : Array Value) (J : World → Prop) (fn : Nat → Bool) (N : Nat) (w : World) (hN : N ≤ 4611686018427387904) (h0 : J w)
    (hp : ∀ (k : Nat) W, k < N → J W → Calls Try.prog g (#[.int .i64 k] ++ lb) W (fun e W' => e = .returned (.bool (fn k)) ∧ J W'))
    (henter : ∀ args w, (callFunc g args).run Try.prog w = .ok (.enter g args) w) :
    Calls Try.prog 38 #[.int .i64 N, .func (.func g) #[] lb] w (SearchPost J fn N) := by
  go_enter Try.func38, Try.ntmps38
  go_wp2
  go_loopw [5, 6] (fun i j wr => ∃ a b : Nat, a ≤ b ∧ b ≤ N ∧ i = .int .i64 a ∧ j = .int .i64 b ∧ Hid (∀ q, q + 1 = a → fn q = false) ∧ Hid (b < N → fn b = true) ∧ Hid (J wr)) (fun i j _ => (intOf j).toNat - (intOf i).toNat)
  case atStart => exact ⟨0, N, Nat.zero_le _, Nat.le_refl _, rfl, rfl, Lib.hid (by omega), Lib.hid (by omega), Lib.hid h0⟩
  case round =>
    obtain ⟨a, b, hab, hbN, rfl, rfl, h1, h2, h3⟩ := hrel
    by_cases hlt : a < b
    · obtain ⟨m1, m2⟩ := half a b hlt
      have hpk := hp ((a + b) / 2) wr (by omega) h3.out
      go_wp2_with fail
      have hm : ((a : Int) + b) / 2 = (((a + b) / 2 : Nat) : Int) := by omega
      rw [hm]
      clear hm
      generalize (a + b) / 2 = m at m1 m2 hpk
      refine hpk.mono ?_
      rintro e w' ⟨rfl, hJ⟩
      replace hJ := Lib.hid hJ
      replace hpk := Lib.hid hpk
      cases hf : fn m
      · have hf2 := Lib.hid hf
        clear hf
        go_wp2
        go_roundw
        case rel => exact ⟨m + 1, b, by omega, hbN, by go_num, rfl, Lib.hid (fun q hq => by have : q = m := by omega
                                                                                            subst this; exact hf2.out), h2, hJ⟩
        case measure => simp [intOf]; omega
      · have hf2 := Lib.hid hf
        clear hf
        go_wp2
        go_roundw
        case rel => exact ⟨a, m, by omega, by omega, rfl, rfl, h1, Lib.hid (fun _ => hf2.out), hJ⟩
        case measure => simp [intOf]; omega
    · go_wp2
      go_ret
      exact ⟨a, by omega, rfl, h1.out, fun h => by have : a = b := by omega
                                                   subst this; exact h2.out h, h3.out⟩
end Go.Proofs.Ytfefocgekmeahaa
