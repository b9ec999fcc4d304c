/- The walk of ReservoirLarge, and the plain law behind it. Conditions: the argument is a byte. -/
import Derived.Test.YtbflocamicebhaaW9
namespace Go.Proofs.Ytbflocamicebhaa
open Go.RowKit Go.Shelf

theorem big_okay (k : Nat) (hk : k < 4) : Okay 0 0 0 0 (List.replicate k 1000000000) := by
  refine ⟨by omega, by omega, by omega, by omega, by omega, by omega, fun i => ?_, fun i => ?_, by simp; omega⟩
  all_goals
    rw [List.getElem?_replicate]
    split <;> simp

theorem big_cap (k : Nat) (hk : k < 4) (n : Int) (h0 : 0 ≤ n) (h1 : n ≤ 1000000000) : chgP (chgCap 0 0) (List.replicate k 1000000000) n = decide ((k : Int) * 1000000000 ≤ n) := by
  rw [Bool.eq_iff_iff]
  match k, hk with
  | 0, _ => simp [chgP, chgCap, failF, firstF_snd, h0]
  | 1, _ =>
    rw [show List.replicate 1 (1000000000 : Int) = [1000000000] from rfl]
    simp only [chgP, chgCap, failF, firstF_snd, List.length_cons, List.length_nil, List.range_succ, List.range_zero]
    simp [miss_iff, lvAt]
  | 2, _ =>
    rw [show List.replicate 2 (1000000000 : Int) = [1000000000, 1000000000] from rfl]
    simp only [chgP, chgCap, failF, firstF_snd, List.length_cons, List.length_nil, List.range_succ, List.range_zero]
    simp [miss_iff, lvAt, stepF]
    (repeat' split) <;> simp <;> omega
  | 3, _ =>
    rw [show List.replicate 3 (1000000000 : Int) = [1000000000, 1000000000, 1000000000] from rfl]
    simp only [chgP, chgCap, failF, firstF_snd, List.length_cons, List.length_nil, List.range_succ, List.range_zero]
    simp [miss_iff, lvAt, stepF]
    (repeat' split) <;> simp <;> omega

theorem big_lv (k : Nat) (n : Int) (j : Nat) : lvAt 0 n 0 (List.replicate k 1000000000) j = 0 := by
  induction j with
  | zero => rfl
  | succ j ih =>
    have : lvAt 0 n 0 (List.replicate k 1000000000) (j + 1) = (stepF 0 n (lvAt 0 n 0 (List.replicate k 1000000000) j) ((List.replicate k 1000000000)[j]?.getD 0)).1 := rfl
    rw [this, ih]
    unfold stepF
    split
    · rfl
    · simp; omega

theorem big_sup (k : Nat) (hk : k < 4) (n : Int) (h0 : 0 ≤ n) : chgP (chgSup 0 0 0) (List.replicate k 1000000000) n = decide (k = 0 ∨ 1000000000 ≤ n) := by
  rw [Bool.eq_iff_iff]
  simp only [chgP, chgSup, failF, firstF_snd, List.length_replicate]
  by_cases hk0 : k = 0
  · subst hk0; simp
  · by_cases hn : 1000000000 ≤ n
    · have : (List.range k).any (missP 0 n 0 (List.replicate k 1000000000)) = false := by
        refine List.any_eq_false.2 (fun j hj => ?_)
        rw [miss_iff, big_lv k n, List.getElem?_replicate]
        have : j < k := by simpa using hj
        simp [this]; omega
      rw [this]; simp [hn]
    · have : (List.range k).any (missP 0 n 0 (List.replicate k 1000000000)) = true := by
        refine List.any_eq_true.2 ⟨0, by simp; omega, ?_⟩
        rw [miss_iff, big_lv k n, List.getElem?_replicate]
        simp [show 0 < k by omega]; omega
      rw [this]; simp; omega

theorem large_cap {k : Nat} (hk : k < 4) {r : Int} {b : Bool} (h : IsLeast (chgP (chgCap 0 0) (List.replicate k 1000000000)) 1000000000 r b) :
    (k ≤ 1 → r = (k : Int) * 1000000000 ∧ b = true) ∧ (1 < k → b = false) := by
  refine ⟨fun h1 => ?_, fun h1 => ?_⟩
  · exact isLeast_eq h (by omega) (by omega) (fun n h0 h1 => by rw [big_cap k hk n h0 (by omega)]; simp; omega) (fun n h0 h1 => by rw [big_cap k hk n (by omega) h1]; simp; omega)
  · exact (isLeast_none h (fun n h0 h1 => by rw [big_cap k hk n h0 h1]; simp; omega)).2

theorem large_sup {k : Nat} (hk : k < 4) {r : Int} {b : Bool} (h : IsLeast (chgP (chgSup 0 0 0) (List.replicate k 1000000000)) 1000000000 r b) :
    r = if k = 0 then 0 else 1000000000 := by
  by_cases hk0 : k = 0
  · subst hk0
    exact (isLeast_eq h (by omega) (by omega) (fun n h0 h1 => by omega) (fun n h0 h1 => by rw [big_sup 0 hk n (by omega)]; simp)).1
  · rw [if_neg hk0]
    exact (isLeast_eq h (by omega) (by omega) (fun n h0 h1 => by rw [big_sup k hk n h0]; simp; omega) (fun n h0 h1 => by rw [big_sup k hk n (by omega)]; simp; omega)).1

set_option maxRecDepth 100000 in
set_option maxHeartbeats 2000000 in
theorem law4_any (n : Int) (hn0 : 0 ≤ n) (hn1 : n ≤ 255) (w : World) :
    Calls Try.prog 4 #[.int .u8 n] w fun e w' => e = .returned (.bool true) ∧ Below w.heap.size w w' := by
  obtain ⟨i0, hi, hz0, hz1, hz2⟩ := info_parts info3
  obtain ⟨k, hk, hkn⟩ : ∃ k : Nat, k < 4 ∧ n % 4 = k := ⟨(n % 4).toNat, by omega, by omega⟩
  go_enter Try.func4, Try.ntmps4
  go_wp2_with fail
  refine (known_any _).mono ?_
  rintro e w1 ⟨rfl, hb1⟩
  go_wp2
  rw [hkn]
  clear hkn
  go_loopw [4, 5] (fun u i wr => ∃ j : Nat, j ≤ k ∧ i = .int .i64 j ∧ wr.ownsRow w1.heap.size 3 1 u j ((List.replicate j 1000000000).map (Value.int .i64)) ∧ Below w1.heap.size w1 wr) (fun _ i _ => k - (intOf i).toNat)
  case atStart => exact ⟨0, by omega, rfl, World.ownsRow_nil _ _ _ _, Below.refl _ _⟩
  case round =>
    rename_i u4 _
    obtain ⟨j, hj, rfl, hrow, hB⟩ := hrel
    have hBs := hB.size
    by_cases hlt : j < k
    · go_wp2_with (at_builtin; refine wpList_append_own _ rfl _ _ 29 rfl w1.heap.size 3 i0 _ 1 8 Try.underlying29 hi hz0 hz1 hz2 rfl (by decide) _ _ _ rfl (hrow.alloc _) ⟨wr.heap.size, 0, none⟩ 1 1 [.int .i64 1000000000] rfl rfl (cells_new _ _ _) (by simp [Value.oneCell']) (by unfold maxLen; omega) (by omega) (by simp; omega) ?_; intro v' w1' hown' hgrow hnil; obtain ⟨g', cap', rfl⟩ := ownsRow_succ hown')
      go_roundw
      case rel =>
        refine ⟨j + 1, by omega, by go_num, ?_, (hB.alloc (by omega) _).grown hgrow (by simp; omega) (fun i e => ownsRow_low hrow i e)⟩
        rw [List.replicate_succ', List.map_append]
        exact hown'
      case measure => simp [intOf]; omega
    · obtain rfl : j = k := by omega
      have hsl : IntSl wr u4 (List.replicate j 1000000000) := IntSl.of_owns (by rw [List.length_replicate]; exact hrow)
      have hB1 := hb1.trans (hB.mono hb1.size)
      have hdm : demF 0 0 0 0 (List.replicate j 1000000000) = 0 := demF_ok (big_okay j hk) (by omega) (by omega)
      clear hrow hB hb1
      have hdm := Lib.hid hdm
      go_wp2_with fail
      refine (Capacity_any 0 0 0 0 _ _ _ hsl (by simp; omega)).mono ?_
      rintro e w2 ⟨hb2, hok, _⟩
      obtain ⟨r, b, hle, rfl⟩ := hok hdm.out
      obtain ⟨hc1, hc2⟩ := large_cap hk hle
      have hB2 := hB1.trans (hb2.mono hB1.size)
      have hsl2 := hsl.mono hb2
      clear hle hok hB1 hsl hb2
      go_wp2_with fail
      refine (Supply_any 0 0 0 0 _ _ _ hsl2 (by simp; omega)).mono ?_
      rintro e w3 ⟨hb3, hok, _⟩
      obtain ⟨r2, b2, hle2, rfl⟩ := hok hdm.out
      have hr2 := large_sup hk hle2
      have hB3 := hB2.trans (hb3.mono hB2.size)
      clear hle2 hok hB2 hsl2 hb3
      rcases (show j = 0 ∨ j = 1 ∨ 1 < j by omega) with h0 | h0 | h0
      · subst h0
        obtain ⟨rfl, rfl⟩ := hc1 (by omega)
        obtain rfl : r2 = 0 := hr2
        clear hc1 hc2
        go_wp2
        go_ret
        exact ⟨rfl, hB3⟩
      · subst h0
        obtain ⟨rfl, rfl⟩ := hc1 (by omega)
        obtain rfl : r2 = 1000000000 := hr2
        clear hc1 hc2
        go_wp2
        go_ret
        exact ⟨rfl, hB3⟩
      · obtain rfl := hc2 h0
        obtain rfl : r2 = 1000000000 := by rw [hr2, if_neg (by omega)]
        have h00 : 0 < j := by omega
        clear hc1 hc2 hr2
        go_wp2
        go_ret
        exact ⟨rfl, hB3⟩
end Go.Proofs.Ytbflocamicebhaa
