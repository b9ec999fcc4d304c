/- The contracts of the stable sort and of SortStableFunc, for indices by a key. Conditions: at most 19 indices. -/
import Derived.Test.YtbfldhmpgealpaaW21
namespace Go.Proofs.Ytbfldhmpgealpaa
open Go.RowKit Go.Shelf

set_option maxHeartbeats 4000000 in
theorem insertion_none (fv : Value) (w : World) : Calls Try.prog 53 #[.slice none 0 0, .int .i64 0, .int .i64 0, fv] w fun e w' => e = .returned (.tuple #[]) ∧ w' = w := by
  go_enter Try.func53, Try.ntmps53
  go_wp2_with fail
  go_loopw [8] (fun i wr => i = .int .i64 1 ∧ wr = w) (fun _ _ => 0)
  case atStart => exact ⟨rfl, rfl⟩
  case round =>
    obtain ⟨rfl, rfl⟩ := hrel
    go_wp2
    go_end0
    exact ⟨rfl, rfl⟩

set_option maxRecDepth 100000 in
set_option maxHeartbeats 4000000 in
theorem stable_any (f : Int → Int) (n g cap base : Nat) (cb : Array Value) (ys0 : List Int) (w : World) (hn : n ≤ 19) (hn1 : 1 ≤ n) (hcmp : CmpOk f n g cb w) (hf : ∀ i : Nat, i < n → 0 ≤ f i ∧ f i ≤ 1000000000000000)
    (ho : w.ownsRow base 3 1 (.slice (some ⟨g, 0, none⟩) n cap) n (ys0.map (Value.int .i64))) (hs : OutSt f ys0 n 1) :
    Calls Try.prog 51 #[.slice (some ⟨g, 0, none⟩) n cap, .int .i64 n, .func (.func 46) #[] cb] w (SortPost f n g cap base n w) := by
  have hins := insertion_any f n g cap base cb ys0 w (by omega) hn1 hcmp hf ho hs
  replace hins := Lib.hid hins
  clear hcmp hf ho hs
  have hn2 : (n : Int) < 20 := by omega
  go_enter Try.func51, Try.ntmps51
  go_wp2_with fail
  go_loopw [7, 8] (fun i j wr => i = .int .i64 0 ∧ j = .int .i64 20 ∧ wr = w) (fun _ _ _ => 0)
  case atStart => exact ⟨rfl, rfl, rfl⟩
  case round =>
    obtain ⟨rfl, rfl, rfl⟩ := hrel
    go_wp2_with fail
    refine hins.out.mono ?_
    rintro e w1 ⟨rfl, hg, ys, h1, h2⟩
    go_wp2_with fail
    go_loopw [6] (fun i wr => i = .int .i64 20 ∧ wr = w1) (fun _ _ => 0)
    case atStart => exact ⟨rfl, rfl⟩
    case round =>
      obtain ⟨rfl, rfl⟩ := hrel
      go_wp2
      go_end0
      exact ⟨rfl, hg, ys, h1, h2⟩

set_option maxRecDepth 100000 in
set_option maxHeartbeats 4000000 in
theorem stable_none (fv : Value) (w : World) : Calls Try.prog 51 #[.slice none 0 0, .int .i64 0, fv] w fun e w' => e = .returned (.tuple #[]) ∧ w' = w := by
  have hins := insertion_none fv w
  replace hins := Lib.hid hins
  go_enter Try.func51, Try.ntmps51
  go_wp2_with fail
  go_loopw [7, 8] (fun i j wr => i = .int .i64 0 ∧ j = .int .i64 20 ∧ wr = w) (fun _ _ _ => 0)
  case atStart => exact ⟨rfl, rfl, rfl⟩
  case round =>
    obtain ⟨rfl, rfl, rfl⟩ := hrel
    go_wp2_with fail
    refine hins.out.mono ?_
    rintro e w1 ⟨rfl, rfl⟩
    go_wp2_with fail
    go_loopw [6] (fun i wr => i = .int .i64 20 ∧ wr = w1) (fun _ _ => 0)
    case atStart => exact ⟨rfl, rfl⟩
    case round =>
      obtain ⟨rfl, rfl⟩ := hrel
      go_wp2
      go_end0
      exact ⟨rfl, rfl⟩

set_option maxHeartbeats 4000000 in
theorem sort_any (f : Int → Int) (n g cap base : Nat) (cb : Array Value) (ys0 : List Int) (w : World) (hn : n ≤ 19) (hn1 : 1 ≤ n) (hcmp : CmpOk f n g cb w) (hf : ∀ i : Nat, i < n → 0 ≤ f i ∧ f i ≤ 1000000000000000)
    (ho : w.ownsRow base 3 1 (.slice (some ⟨g, 0, none⟩) n cap) n (ys0.map (Value.int .i64))) (hs : OutSt f ys0 n 1) :
    Calls Try.prog 45 #[.slice (some ⟨g, 0, none⟩) n cap, .func (.func 46) #[] cb] w (SortPost f n g cap base n w) := by
  have hins := stable_any f n g cap base cb ys0 w hn hn1 hcmp hf ho hs
  replace hins := Lib.hid hins
  clear hcmp hf ho hs
  go_enter Try.func45, Try.ntmps45
  go_wp2_with fail
  refine hins.out.mono ?_
  rintro e w1 ⟨rfl, hg, ys, h1, h2⟩
  go_wp2
  go_end0
  exact ⟨rfl, hg, ys, h1, h2⟩

set_option maxHeartbeats 4000000 in
theorem sort_none (fv : Value) (w : World) : Calls Try.prog 45 #[.slice none 0 0, fv] w fun e w' => e = .returned (.tuple #[]) ∧ w' = w := by
  have hins := stable_none fv w
  replace hins := Lib.hid hins
  go_enter Try.func45, Try.ntmps45
  go_wp2_with fail
  refine hins.out.mono ?_
  rintro e w1 ⟨rfl, rfl⟩
  go_wp2
  go_end0
  exact ⟨rfl, rfl⟩
end Go.Proofs.Ytbfldhmpgealpaa
