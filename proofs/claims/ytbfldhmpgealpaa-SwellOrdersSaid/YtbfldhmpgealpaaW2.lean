/- Contracts of both checks of a box. Conditions: the box has at most 2^47 levels. -/
import Derived.Test.YtbfldhmpgealpaaW0
import Derived.BigQuiet
import Derived.Deep.QuietTactic
namespace Go.Proofs.Ytbfldhmpgealpaa
open Go.RowKit

def chkB (ls : List Int) (k : Nat) (_ : Unit) : Int ⊕ Unit :=
  if ¬ (0 ≤ nth ls k ∧ nth ls k ≤ 1000) then .inl 3 else if 0 < k ∧ nth ls k < nth ls (k - 1) then .inl 6 else .inr ()
def chkS (ls : List Int) (k : Nat) : Int := scan ls.length (chkB ls) (fun _ => 0) k ()
/-- the error of a box -/
def chkF (ls : List Int) : Int := if ls.length = 0 then 13 else if 64 < ls.length then 4 else chkS ls 0

theorem chkS_range {ls : List Int} {k : Nat} (h : k < ls.length) (h1 : ¬ (0 ≤ nth ls k ∧ nth ls k ≤ 1000)) : chkS ls k = 3 := scan_inl h (by unfold chkB; rw [if_pos h1])
theorem chkS_order {ls : List Int} {k : Nat} (h : k < ls.length) (h1 : 0 ≤ nth ls k ∧ nth ls k ≤ 1000) (h2 : 0 < k) (h3 : nth ls k < nth ls (k - 1)) : chkS ls k = 6 :=
  scan_inl h (by unfold chkB; rw [if_neg (by simpa using h1), if_pos ⟨h2, h3⟩])
theorem chkS_next {ls : List Int} {k : Nat} (h : k < ls.length) (h1 : 0 ≤ nth ls k ∧ nth ls k ≤ 1000) (h2 : k = 0 ∨ nth ls (k - 1) ≤ nth ls k) : chkS ls k = chkS ls (k + 1) :=
  scan_inr h (by unfold chkB; rw [if_neg (by simpa using h1), if_neg (by omega)])
theorem chkS_end {ls : List Int} {k : Nat} (h : ls.length ≤ k) : chkS ls k = 0 := scan_ge h

set_option maxHeartbeats 2000000 in
theorem check_any (v : Value) (ls : List Int) (w : World) (hv : NumSl .i64 w v ls) (hm : ls.length ≤ 140737488355328) :
    Calls Try.prog 25 #[.agg #[v]] w fun e w' => e = .returned (.int .i64 (chkF ls)) ∧ Below w.heap.size w w' := by
  have hB := (Below.refl w.heap.size w).alloc (Nat.le_refl _) (.cells #[v] 49)
  have bP := BoxC.new w 49 #[v]
  have hv1 := hv.mono hB
  obtain ⟨a, cap, rfl⟩ := hv.len
  clear hv
  obtain ⟨F, hF⟩ : ∃ F, chkF ls = F := ⟨_, rfl⟩
  rw [hF]
  unfold chkF at hF
  by_cases h0 : ls.length = 0
  · rw [if_pos h0] at hF
    have hz : ((ls.length : Int) == 0) = true := by simp [h0]
    replace h0 := Lib.hid h0; replace hF := Lib.hid hF
    go_enter Try.func25, Try.ntmps25
    go_wp2
    go_ret
    exact ⟨ret_int hF.out, hB⟩
  · rw [if_neg h0] at hF
    have hz : ((ls.length : Int) == 0) = false := by simpa using h0
    by_cases h1 : 64 < ls.length
    · rw [if_pos h1] at hF
      replace hF := Lib.hid hF
      go_enter Try.func25, Try.ntmps25
      go_wp2
      go_ret
      exact ⟨ret_int hF.out, hB⟩
    · rw [if_neg h1] at hF
      replace hF := Lib.hid hF
      go_enter Try.func25, Try.ntmps25
      go_wp2
      generalize hW : w.alloc (.cells #[.slice a ls.length cap] 49) = W at hB bP hv1 ⊢
      clear hW
      go_loopw [3] (fun i wr => ∃ k : Nat, k ≤ ls.length ∧ i = .int .i64 k ∧ Hid (chkS ls k = F) ∧ Below W.heap.size W wr) (fun i _ => ls.length - (intOf i).toNat)
      case atStart => exact ⟨0, Nat.zero_le _, rfl, hF, Below.refl _ _⟩
      case round =>
        obtain ⟨k, hk, rfl, hFk, hBr⟩ := hrel
        have c0 := (bP.grown hBr).cell 0 rfl
        by_cases hlt : k < ls.length
        · obtain ⟨b, off, cap', he, hc⟩ := (hv1.mono hBr).at hlt
          cases he
          have c1 := hc k hlt
          by_cases hr : 0 ≤ nth ls k ∧ nth ls k ≤ 1000
          · have hnx := chkS_next hlt hr
            by_cases hk0 : 0 < k
            · have c2 := hc (k - 1) (by omega)
              have hod := chkS_order hlt hr hk0
              obtain ⟨hr1, hr2⟩ := hr
              clear hc hv1 bP
              generalize nth ls k = x at c1 hnx hod hr1 hr2
              generalize nth ls (k - 1) = y at c2 hnx hod
              have hd : decide (0 < k) = true := by simpa using hk0
              have hd2 : (((k : Int) - 1).toNat) = k - 1 := by omega
              by_cases hxy : x < y
              · replace hod := Lib.hid (hod hxy); clear hnx
                go_wp2_with fail
                go_quiet (fail)
                go_wp2
                go_ret
                exact ⟨ret_int (hod.out.symm.trans hFk.out), hB.trans (below_drewN (hBr.mono hB.size) _)⟩
              · replace hnx := Lib.hid (hnx (.inr (by omega))); clear hod
                have hxy2 : decide (x < y) = false := by simpa using hxy
                go_wp2_with fail
                go_quiet (fail)
                go_wp2
                go_roundw
                case rel => exact ⟨k + 1, by omega, by go_num, hnx.out.symm.trans hFk.out, below_drewN hBr _⟩
                case measure => simp [intOf]; omega
            · have hd : decide (0 < k) = false := by simpa using hk0
              replace hnx := Lib.hid (hnx (.inl (by omega)))
              obtain ⟨hr1, hr2⟩ := hr
              clear hc hv1 bP
              generalize nth ls k = x at c1 hr1 hr2
              go_wp2_with fail
              go_quiet (fail)
              go_wp2
              go_roundw
              case rel => exact ⟨k + 1, by omega, by go_num, hnx.out.symm.trans hFk.out, below_drewN hBr _⟩
              case measure => simp [intOf]; omega
          · have hrg := Lib.hid (chkS_range hlt hr)
            clear hc hv1 bP
            generalize nth ls k = x at c1 hr
            by_cases hx : x < 0
            · clear hr
              go_wp2
              go_ret
              exact ⟨ret_int (hrg.out.symm.trans hFk.out), hB.trans (hBr.mono hB.size)⟩
            · have hx2 : 1000 < x := by omega
              clear hr
              go_wp2
              go_ret
              exact ⟨ret_int (hrg.out.symm.trans hFk.out), hB.trans (hBr.mono hB.size)⟩
        · have hen := Lib.hid (chkS_end (ls := ls) (k := k) (by omega))
          go_wp2
          go_ret
          exact ⟨ret_int (hen.out.symm.trans hFk.out), hB.trans (hBr.mono hB.size)⟩

set_option maxHeartbeats 2000000 in
theorem Check_any (v : Value) (ls : List Int) (w : World) (hv : NumSl .i64 w v ls) (hm : ls.length ≤ 140737488355328) :
    Calls Try.prog 28 #[.agg #[v]] w fun e w' => e = .returned (.int .i64 (chkF ls)) ∧ Below w.heap.size w w' := by
  have hB := (Below.refl w.heap.size w).alloc (Nat.le_refl _) (.cells #[v] 49)
  have bP := BoxC.new w 49 #[v]
  have hv1 := hv.mono hB
  obtain ⟨a, cap, rfl⟩ := hv.len
  clear hv
  obtain ⟨F, hF⟩ : ∃ F, chkF ls = F := ⟨_, rfl⟩
  rw [hF]
  unfold chkF at hF
  by_cases h0 : ls.length = 0
  · rw [if_pos h0] at hF
    have hz : ((ls.length : Int) == 0) = true := by simp [h0]
    replace h0 := Lib.hid h0; replace hF := Lib.hid hF
    go_enter Try.func28, Try.ntmps28
    go_wp2
    go_ret
    exact ⟨ret_int hF.out, hB⟩
  · rw [if_neg h0] at hF
    have hz : ((ls.length : Int) == 0) = false := by simpa using h0
    by_cases h1 : 64 < ls.length
    · rw [if_pos h1] at hF
      replace hF := Lib.hid hF
      go_enter Try.func28, Try.ntmps28
      go_wp2
      go_ret
      exact ⟨ret_int hF.out, hB⟩
    · rw [if_neg h1] at hF
      replace hF := Lib.hid hF
      go_enter Try.func28, Try.ntmps28
      go_wp2
      generalize hW : w.alloc (.cells #[.slice a ls.length cap] 49) = W at hB bP hv1 ⊢
      clear hW
      have c0 := bP.cell 0 rfl
      go_loop [18] (fun i => ∃ k : Nat, k ≤ ls.length ∧ i = .int .i64 k ∧ Hid (chkS ls k = F)) (fun i => ls.length - (intOf i).toNat)
      case atStart => exact ⟨0, Nat.zero_le _, rfl, hF⟩
      case round =>
        obtain ⟨k, hk, rfl, hFk⟩ := hrel
        by_cases hlt : k < ls.length
        · obtain ⟨b, off, cap', he, hc⟩ := hv1.at hlt
          cases he
          have c1 := hc k hlt
          by_cases hr : 0 ≤ nth ls k ∧ nth ls k ≤ 1000
          · have hnx := chkS_next hlt hr
            have e1 := Lib.hid (betw_true hr)
            by_cases hk0 : 0 < k
            · have c2 := hc (k - 1) (by omega)
              have hod := chkS_order hlt hr hk0
              obtain ⟨hr1, hr2⟩ := hr
              clear hc hv1 bP
              generalize nth ls k = x at c1 hnx hod hr1 hr2 e1
              generalize nth ls (k - 1) = y at c2 hnx hod
              have hd : decide (0 < k) = true := by simpa using hk0
              have hd2 : (((k : Int) - 1).toNat) = k - 1 := by omega
              by_cases hxy : x < y
              · replace hod := Lib.hid (hod hxy); clear hnx
                go_wp2_with (go_at_call 38; refine (within_any _ _ _ _).mono ?_; rintro e w' ⟨rfl, rfl⟩; rw [e1.out])
                go_ret
                exact ⟨ret_int (hod.out.symm.trans hFk.out), hB⟩
              · replace hnx := Lib.hid (hnx (.inr (by omega))); clear hod
                have hxy2 : decide (x < y) = false := by simpa using hxy
                go_wp2_with (go_at_call 38; refine (within_any _ _ _ _).mono ?_; rintro e w' ⟨rfl, rfl⟩; rw [e1.out])
                go_round
                case rel => exact ⟨k + 1, by omega, by go_num, hnx.out.symm.trans hFk.out⟩
                case measure => simp [intOf]; omega
            · have hd : decide (0 < k) = false := by simpa using hk0
              replace hnx := Lib.hid (hnx (.inl (by omega)))
              obtain ⟨hr1, hr2⟩ := hr
              clear hc hv1 bP
              generalize nth ls k = x at c1 hr1 hr2 e1
              go_wp2_with (go_at_call 38; refine (within_any _ _ _ _).mono ?_; rintro e w' ⟨rfl, rfl⟩; rw [e1.out])
              go_round
              case rel => exact ⟨k + 1, by omega, by go_num, hnx.out.symm.trans hFk.out⟩
              case measure => simp [intOf]; omega
          · have hrg := Lib.hid (chkS_range hlt hr)
            have e1 := Lib.hid (betw_false hr)
            clear hc hv1 bP hr
            generalize nth ls k = x at c1 e1
            go_wp2_with (go_at_call 38; refine (within_any _ _ _ _).mono ?_; rintro e w' ⟨rfl, rfl⟩; rw [e1.out])
            go_ret
            exact ⟨ret_int (hrg.out.symm.trans hFk.out), hB⟩
        · have hen := Lib.hid (chkS_end (ls := ls) (k := k) (by omega))
          go_wp2
          go_ret
          exact ⟨ret_int (hen.out.symm.trans hFk.out), hB⟩
end Go.Proofs.Ytbfldhmpgealpaa
