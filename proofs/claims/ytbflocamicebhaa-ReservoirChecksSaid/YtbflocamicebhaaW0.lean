/- Contracts of wind, Check, slices.IndexFunc and slices.ContainsFunc over a list of ints. Conditions: the list has at most 2^47 elements. -/
import Derived.Test.YtbflocamicebhaaRows
import Derived.Test.YtbflocamicebhaaKeep
import Derived.WalkKit
import Derived.WalkSpells
import Derived.WalkLawsBesides
import Derived.BigQuiet
import Derived.Deep.QuietTactic
import Derived.Outline
import Derived.Lib.Hide
namespace Go.Proofs.Ytbflocamicebhaa
open Go.RowKit

/-- the value v reads as the list xs of ints in w -/
def IntSl (w : World) (v : Value) (xs : List Int) : Prop :=
  ((∃ a cap, v = .slice a 0 cap) ∧ xs = []) ∨ ∃ b off cap, v = .slice (some ⟨b, off, none⟩) xs.length cap ∧ ∀ i, i < xs.length → w.cell? ⟨b, off + i, none⟩ = some (.int .i64 (xs[i]?.getD 0))

def windB (n m : Int) : Bool := decide (0 ≤ n) && decide (n ≤ m)

set_option maxHeartbeats 400000 in
theorem wind_any (n m : Int) (w : World) :
    Calls Try.prog 36 #[.int .i64 n, .int .i64 m] w fun e w' => e = .returned (.bool (windB n m)) ∧ w = w' := by
  by_cases h : 0 ≤ n
  · go_enter Try.func36, Try.ntmps36
    go_wp2
    go_ret
    simp [windB, h]
  · have h' : n < 0 := by omega
    go_enter Try.func36, Try.ntmps36
    go_wp2
    go_ret
    simp [windB]; omega

def checkF (c l s q : Int) : Int := if windB c 1000000000 && windB s 1000000000 && windB l c && windB q c then 0 else 3

set_option maxHeartbeats 400000 in
theorem check_any (c l s q : Int) (w : World) :
    Calls Try.prog 29 #[.agg #[.int .i64 c, .int .i64 l, .int .i64 s, .int .i64 q]] w fun e w' => e = .returned (.int .i64 (checkF c l s q)) ∧ Below w.heap.size w w' := by
  go_enter Try.func29, Try.ntmps29
  go_wp2_with (go_at_call 36; refine (wind_any _ _ _).mono ?_; rintro e w' ⟨rfl, rfl⟩)
  all_goals
    go_ret
    exact ⟨by simp_all [checkF], (Below.refl _ _).alloc (Nat.le_refl _) _⟩

set_option maxHeartbeats 400000 in
theorem dem1_any (n : Int) (w : World) :
    Calls Try.prog 43 #[.int .i64 n] w fun e w' => e = .returned (.bool (!windB n 1000000000)) ∧ w = w' := by
  go_enter Try.func43, Try.ntmps43
  go_wp2_with (go_at_call 36; refine (wind_any _ _ _).mono ?_; rintro e w' ⟨rfl, rfl⟩)
  go_ret
  exact ⟨rfl, rfl⟩

/-- the first index that has a property, or -1 -/
def idxF (p : Int → Bool) (xs : List Int) : Int := match xs.findIdx? p with | some i => i | none => -1

def idxFrom (p : Int → Bool) (xs : List Int) (k : Nat) : Prop := ∀ i, i < k → p (xs[i]?.getD 0) = false

theorem idxF_none {p : Int → Bool} {xs : List Int} (h : idxFrom p xs xs.length) : idxF p xs = -1 := by
  unfold idxF
  have : xs.findIdx? p = none := by
    rw [List.findIdx?_eq_none_iff]
    intro x hx
    obtain ⟨i, hi, rfl⟩ := List.getElem_of_mem hx
    have := h i hi
    simpa [hi] using this
  rw [this]
theorem idxF_some {p : Int → Bool} {xs : List Int} {k : Nat} (hk : k < xs.length) (h : idxFrom p xs k) (hp : p (xs[k]?.getD 0) = true) : idxF p xs = k := by
  unfold idxF
  have : xs.findIdx? p = some k := by
    rw [List.findIdx?_eq_some_iff_getElem]
    refine ⟨hk, by simpa [hk] using hp, fun j hj => ?_⟩
    have := h j hj
    have hj2 : j < xs.length := by omega
    simpa [hj2] using this
  rw [this]
theorem idxFrom_succ {p : Int → Bool} {xs : List Int} {k : Nat} (h : idxFrom p xs k) (hp : p (xs[k]?.getD 0) = false) : idxFrom p xs (k + 1) := by
  intro i hi
  by_cases e : i = k
  · subst e; exact hp
  · exact h i (by omega)

set_option maxHeartbeats 400000 in
theorem indexFunc_any (g : Nat) (p : Int → Bool) (hp : ∀ n w, Calls Try.prog g #[.int .i64 n] w fun e w' => e = .returned (.bool (p n)) ∧ w = w')
    (henter : ∀ args w, (callFunc g args).run Try.prog w = .ok (.enter g args) w) (v : Value) (xs : List Int) (w : World) (hv : IntSl w v xs) (hm : xs.length ≤ 140737488355328) :
    Calls Try.prog 48 #[v, .func (.func g) #[] #[]] w fun e w' => e = .returned (.int .i64 (idxF p xs)) ∧ w = w' := by
  rcases hv with ⟨⟨a, cap, rfl⟩, rfl⟩ | ⟨b, off, cap, rfl, hc⟩
  · go_enter Try.func48, Try.ntmps48
    go_wp2
    go_loop [8] (fun i => i = .int .i64 0) (fun _ => 0)
    case atStart => rfl
    case round =>
      subst hrel
      go_wp2
      go_ret
      exact ⟨rfl, rfl⟩
  · go_enter Try.func48, Try.ntmps48
    go_wp2
    go_loop [8] (fun i => ∃ k : Nat, k ≤ xs.length ∧ i = .int .i64 k ∧ idxFrom p xs k) (fun i => xs.length - (intOf i).toNat)
    case atStart => exact ⟨0, Nat.zero_le _, rfl, fun i hi => by omega⟩
    case round =>
      obtain ⟨k, hk, rfl, hr⟩ := hrel
      by_cases hlt : k < xs.length
      · have hck := hc k hlt
        have hs := @idxFrom_succ p xs k hr
        have hso := @idxF_some p xs k hlt hr
        have hxk : (xs[k]?.getD 0) = xs[k] := by simp [hlt]
        rw [hxk] at hck hs hso
        generalize xs[k] = x at hck hs hso
        clear hc hxk
        cases hpk : p x
        · have H := Lib.hid (hs hpk); have H2 := Lib.hid hpk; clear hs hpk hr hso
          go_wp2_with fail
          refine (hp _ _).mono ?_
          rintro e w' ⟨rfl, rfl⟩
          rw [H2.out]
          go_wp2
          go_round
          case rel => exact ⟨k + 1, by omega, by go_num, H.out⟩
          case measure => simp [intOf]; omega
        · have H := Lib.hid (hso hpk); have H2 := Lib.hid hpk; clear hs hpk hr hso
          go_wp2_with fail
          refine (hp _ _).mono ?_
          rintro e w' ⟨rfl, rfl⟩
          rw [H2.out]
          go_wp2
          go_ret
          exact ⟨by rw [H.out]; rfl, rfl⟩
      · obtain rfl : k = xs.length := by omega
        have H := Lib.hid (idxF_none hr); clear hr hc
        go_wp2
        go_ret
        exact ⟨by rw [H.out]; rfl, rfl⟩

set_option maxHeartbeats 400000 in
theorem containsFunc_any (v : Value) (xs : List Int) (w : World) (hv : IntSl w v xs) (hm : xs.length ≤ 140737488355328) :
    Calls Try.prog 42 #[v, .func (.func 43) #[] #[]] w fun e w' => e = .returned (.bool (xs.any fun n => !windB n 1000000000)) ∧ w = w' := by
  have hany : decide (0 ≤ idxF (fun n => !windB n 1000000000) xs) = xs.any fun n => !windB n 1000000000 := by
    unfold idxF
    cases h : xs.findIdx? (fun n => !windB n 1000000000) with
    | none =>
      rw [List.findIdx?_eq_none_iff] at h
      have h2 : (xs.any fun n => !windB n 1000000000) = false := List.any_eq_false.2 (fun x hx => by simpa using h x hx)
      rw [h2]; rfl
    | some i =>
      rw [List.findIdx?_eq_some_iff_getElem] at h
      obtain ⟨hi, h1, _⟩ := h
      have h2 : (xs.any fun n => !windB n 1000000000) = true := List.any_eq_true.2 ⟨xs[i], List.getElem_mem hi, h1⟩
      rw [h2]; simp
  go_enter Try.func42, Try.ntmps42
  go_wp2_with (go_at_call 48; refine (indexFunc_any 43 _ dem1_any (fun _ _ => rfl) _ xs _ hv hm).mono ?_; rintro e w' ⟨rfl, rfl⟩)
  go_ret
  exact ⟨by rw [← hany]; rfl, rfl⟩

end Go.Proofs.Ytbflocamicebhaa
