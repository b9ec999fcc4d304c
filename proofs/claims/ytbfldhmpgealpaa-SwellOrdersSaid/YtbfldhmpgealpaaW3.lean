/- Contracts of Level and Nearest. Conditions: the box has at most 2^47 levels; n is any int for Level. -/
import Derived.Test.YtbfldhmpgealpaaW2
namespace Go.Proofs.Ytbfldhmpgealpaa
open Go.RowKit

theorem chkS_step {ls : List Int} {k : Nat} (h : k < ls.length) (h0 : chkS ls k = 0) : (0 ≤ nth ls k ∧ nth ls k ≤ 1000) ∧ (k = 0 ∨ nth ls (k - 1) ≤ nth ls k) ∧ chkS ls (k + 1) = 0 := by
  by_cases h1 : 0 ≤ nth ls k ∧ nth ls k ≤ 1000
  · by_cases h2 : k = 0 ∨ nth ls (k - 1) ≤ nth ls k
    · exact ⟨h1, h2, by rw [← chkS_next h h1 h2]; exact h0⟩
    · rw [chkS_order h h1 (by omega) (by omega)] at h0
      cases h0
  · rw [chkS_range h h1] at h0
    cases h0
theorem chkS_all {ls : List Int} (h0 : chkS ls 0 = 0) : ∀ k, k ≤ ls.length → chkS ls k = 0
  | 0, _ => h0
  | k + 1, h => (chkS_step (by omega) (chkS_all h0 k (by omega))).2.2

/-- a right box -/
structure BoxOk (ls : List Int) : Prop where
  n0 : 0 < ls.length
  n1 : ls.length ≤ 64
  r : ∀ k, k < ls.length → 0 ≤ nth ls k ∧ nth ls k ≤ 1000
  o : ∀ k, k + 1 < ls.length → nth ls k ≤ nth ls (k + 1)

theorem boxOk_of {ls : List Int} (h : chkF ls = 0) : BoxOk ls := by
  unfold chkF at h
  split at h
  · cases h
  · split at h
    · cases h
    · have := chkS_all h
      exact ⟨by omega, by omega, fun k hk => (chkS_step hk (this k (by omega))).1, fun k hk => by have := (chkS_step hk (this (k + 1) (by omega))).2.1; simpa using this⟩

theorem neq_of {d : Int} (h : d ≠ 0) : (d != 0) = true ∧ (d == 0) = false := by simp [h]

def levelF (ls : List Int) (n : Int) : Int × Int := if chkF ls ≠ 0 then (0, chkF ls) else if ¬ (0 ≤ n ∧ n ≤ (ls.length : Int) - 1) then (0, 3) else (nth ls n.toNat, 0)

set_option maxHeartbeats 1000000 in
theorem Level_any (v : Value) (ls : List Int) (n : Int) (w : World) (hv : NumSl .i64 w v ls) (hm : ls.length ≤ 140737488355328) :
    Calls Try.prog 26 #[.agg #[v], .int .i64 n] w fun e w' => e = .returned (.tuple #[.int .i64 (levelF ls n).1, .int .i64 (levelF ls n).2]) ∧ Below w.heap.size w w' := by
  have hB := (Below.refl w.heap.size w).alloc (Nat.le_refl _) (.cells #[v] 49)
  have bP := BoxC.new w 49 #[v]
  have hv1 := hv.mono hB
  obtain ⟨a, cap, rfl⟩ := hv.len
  clear hv
  obtain ⟨F, hF⟩ : ∃ F, levelF ls n = F := ⟨_, rfl⟩
  rw [hF]
  unfold levelF at hF
  have hck := Check_any _ ls _ hv1 hm
  obtain ⟨d, hd⟩ : ∃ d, chkF ls = d := ⟨_, rfl⟩
  rw [hd] at hF hck
  replace hck := Lib.hid hck
  by_cases h0 : d = 0
  · subst h0
    have hok := boxOk_of hd
    obtain ⟨n0, n1, -, -⟩ := hok
    clear hd
    rw [if_neg (by simp)] at hF
    by_cases h1 : 0 ≤ n ∧ n ≤ (ls.length : Int) - 1
    · have e1 := Lib.hid (betw_true h1)
      rw [if_neg (by simpa using h1)] at hF
      subst hF
      obtain ⟨k, rfl⟩ := Int.eq_ofNat_of_zero_le h1.1
      have hk : k < ls.length := by omega
      rw [Int.toNat_natCast]
      clear h1
      go_enter Try.func26, Try.ntmps26
      go_wp2_with fail
      refine hck.out.mono ?_
      rintro e w1 ⟨rfl, hb⟩
      have c0 := (bP.grown hb).cell 0 rfl
      obtain ⟨b, off, cap', he, hc⟩ := (hv1.mono hb).at hk
      cases he
      have c1 := hc k hk
      clear hc hv1 bP
      go_wp2_with (go_at_call 38; refine (within_any _ _ _ _).mono ?_; rintro e w' ⟨rfl, rfl⟩; rw [e1.out])
      go_ret2
      exact ⟨rfl, hB.trans (hb.mono hB.size)⟩
    · have e1 := Lib.hid (betw_false h1)
      rw [if_pos h1] at hF
      subst hF
      clear h1
      go_enter Try.func26, Try.ntmps26
      go_wp2_with fail
      refine hck.out.mono ?_
      rintro e w1 ⟨rfl, hb⟩
      have c0 := (bP.grown hb).cell 0 rfl
      clear hv1 bP
      go_wp2_with (go_at_call 38; refine (within_any _ _ _ _).mono ?_; rintro e w' ⟨rfl, rfl⟩; rw [e1.out])
      go_ret2
      exact ⟨rfl, hB.trans (hb.mono hB.size)⟩
  · obtain ⟨g1, g2⟩ := neq_of h0
    rw [if_pos h0] at hF
    subst hF
    clear hd h0
    go_enter Try.func26, Try.ntmps26
    go_wp2_with fail
    refine hck.out.mono ?_
    rintro e w1 ⟨rfl, hb⟩
    clear hv1 bP
    go_wp2
    go_ret2
    exact ⟨rfl, hB.trans (hb.mono hB.size)⟩

/-- the nearest of the first k levels -/
def nearI (ls : List Int) (n : Int) : Nat → Nat
  | 0 => 0
  | k + 1 => if absI (nth ls k - n) < absI (nth ls (nearI ls n k) - n) then k else nearI ls n k
theorem nearI_lt {ls : List Int} {n : Int} (h : 0 < ls.length) : ∀ k, k ≤ ls.length → nearI ls n k < ls.length
  | 0, _ => h
  | k + 1, hk => by
    have := nearI_lt (n := n) h k (by omega)
    unfold nearI
    split <;> omega
def nearF (ls : List Int) (n : Int) : Int × Int := if chkF ls ≠ 0 then (0, chkF ls) else if ¬ (0 ≤ n ∧ n ≤ 1000) then (0, 3) else (nearI ls n ls.length, 0)

set_option maxHeartbeats 1000000 in
theorem Nearest_any (v : Value) (ls : List Int) (n : Int) (w : World) (hv : NumSl .i64 w v ls) (hm : ls.length ≤ 140737488355328) :
    Calls Try.prog 27 #[.agg #[v], .int .i64 n] w fun e w' => e = .returned (.tuple #[.int .i64 (nearF ls n).1, .int .i64 (nearF ls n).2]) ∧ Below w.heap.size w w' := by
  have hB := (Below.refl w.heap.size w).alloc (Nat.le_refl _) (.cells #[v] 49)
  have bP := BoxC.new w 49 #[v]
  have hv1 := hv.mono hB
  obtain ⟨a, cap, rfl⟩ := hv.len
  clear hv
  obtain ⟨F, hF⟩ : ∃ F, nearF ls n = F := ⟨_, rfl⟩
  rw [hF]
  unfold nearF at hF
  have hck := Check_any _ ls _ hv1 hm
  obtain ⟨d, hd⟩ : ∃ d, chkF ls = d := ⟨_, rfl⟩
  rw [hd] at hF hck
  replace hck := Lib.hid hck
  by_cases h0 : d = 0
  · subst h0
    have hok := boxOk_of hd
    clear hd
    rw [if_neg (by simp)] at hF
    by_cases h1 : 0 ≤ n ∧ n ≤ 1000
    · have e1 := Lib.hid (betw_true h1)
      rw [if_neg (by simpa using h1)] at hF
      subst hF
      obtain ⟨hn0, hn1⟩ := h1
      go_enter Try.func27, Try.ntmps27
      go_wp2_with fail
      refine hck.out.mono ?_
      rintro e w1 ⟨rfl, hb⟩
      have hB1 := hB.trans (hb.mono hB.size)
      have bP1 := bP.grown hb
      have hv2 := hv1.mono hb
      clear hv1 bP hB hb hck
      have c0 := bP1.cell 0 rfl
      go_wp2_with (go_at_call 38; refine (within_any _ _ _ _).mono ?_; rintro e w' ⟨rfl, rfl⟩; rw [e1.out])
      go_loopw [7, 21] (fun m i wr => ∃ k : Nat, k ≤ ls.length ∧ i = .int .i64 k ∧ m = .int .i64 (nearI ls n k : Nat) ∧ Below w1.heap.size w1 wr) (fun _ i _ => ls.length - (intOf i).toNat)
      case atStart => exact ⟨0, Nat.zero_le _, rfl, rfl, Below.refl _ _⟩
      case round =>
        obtain ⟨k, hk, rfl, rfl, hBr⟩ := hrel
        by_cases hlt : k < ls.length
        · have hm1 := nearI_lt (ls := ls) (n := n) hok.n0 k hk
          have hnx : nearI ls n (k + 1) = if absI (nth ls k - n) < absI (nth ls (nearI ls n k) - n) then k else nearI ls n k := rfl
          obtain ⟨b, off, cap', he, hc⟩ := (hv2.mono hBr).at hlt
          cases he
          have c1 := hc k hlt
          have c2 := hc _ hm1
          have r1 := hok.r k hlt
          have r2 := hok.r _ hm1
          have c0 := (bP1.grown hBr).cell 0 rfl
          clear hc hv2 bP1 hok
          generalize nearI ls n k = m at c2 r2 hm1 hnx ⊢
          generalize nth ls k = x at c1 r1 hnx
          generalize nth ls m = y at c2 r2 hnx
          have e2 : IntKind.i64.wrap (x - n) = x - n := IntWalk.i64_in _ (by omega)
          have e3 : IntKind.i64.wrap (y - n) = y - n := IntWalk.i64_in _ (by omega)
          have hmi : (m : Int) < (ls.length : Int) := by omega
          by_cases hcmp : absI (x - n) < absI (y - n)
          · rw [if_pos hcmp] at hnx
            replace hnx := Lib.hid hnx
            go_wp2_with fail
            go_quiet ((go_at_call 44; exact quiet_left (abs_any _ _ (by omega) (by omega))))
            clear e2 e3
            go_wp2
            go_roundw
            case rel => exact ⟨k + 1, by omega, by go_num, by rw [hnx.out], below_drewN hBr _⟩
            case measure => simp [intOf]; omega
          · rw [if_neg hcmp] at hnx
            replace hnx := Lib.hid hnx
            have hd : decide (absI (x - n) < absI (y - n)) = false := by simpa using hcmp
            go_wp2_with fail
            go_quiet ((go_at_call 44; exact quiet_left (abs_any _ _ (by omega) (by omega))))
            clear e2 e3
            go_wp2
            go_roundw
            case rel => exact ⟨k + 1, by omega, by go_num, by rw [hnx.out], below_drewN hBr _⟩
            case measure => simp [intOf]; omega
        · obtain rfl : k = ls.length := by omega
          go_wp2
          go_ret2
          exact ⟨rfl, hB1.trans (hBr.mono hB1.size)⟩
    · have e1 := Lib.hid (betw_false h1)
      rw [if_pos h1] at hF
      subst hF
      clear h1
      go_enter Try.func27, Try.ntmps27
      go_wp2_with fail
      refine hck.out.mono ?_
      rintro e w1 ⟨rfl, hb⟩
      have c0 := (bP.grown hb).cell 0 rfl
      clear hv1 bP
      go_wp2_with (go_at_call 38; refine (within_any _ _ _ _).mono ?_; rintro e w' ⟨rfl, rfl⟩; rw [e1.out])
      go_ret2
      exact ⟨rfl, hB.trans (hb.mono hB.size)⟩
  · obtain ⟨g1, g2⟩ := neq_of h0
    rw [if_pos h0] at hF
    subst hF
    clear hd h0
    go_enter Try.func27, Try.ntmps27
    go_wp2_with fail
    refine hck.out.mono ?_
    rintro e w1 ⟨rfl, hb⟩
    clear hv1 bP
    go_wp2
    go_ret2
    exact ⟨rfl, hB.trans (hb.mono hB.size)⟩
end Go.Proofs.Ytbfldhmpgealpaa
