/- The walk of SwellBoxes, and the plain law that the nearest stage of a level has this level. Conditions: the box has at most 2^63 levels. -/
import Derived.Test.YtbfldhmpgealpaaL3
import Derived.Deep.RegionHeld3
namespace Go.Proofs.Ytbfldhmpgealpaa
open Go.RowKit

theorem nearI_min {ls : List Int} {n : Int} : ∀ k j : Nat, j < k → absI (nth ls (nearI ls n k) - n) ≤ absI (nth ls j - n)
  | 0, j, h => by omega
  | k + 1, j, h => by
    have ih := fun i hi => nearI_min (ls := ls) (n := n) k i hi
    unfold nearI
    split
    · rename_i h1
      rcases Nat.lt_or_ge j k with h2 | h2
      · have := ih j h2; omega
      · obtain rfl : j = k := by omega
        exact Int.le_refl _
    · rename_i h1
      rcases Nat.lt_or_ge j k with h2 | h2
      · exact ih j h2
      · obtain rfl : j = k := by omega
        omega
theorem nearI_self {ls : List Int} {i : Nat} (h : i < ls.length) : nth ls (nearI ls (nth ls i) ls.length) = nth ls i := by
  have h1 := nearI_min (ls := ls) (n := nth ls i) ls.length i h
  have h2 := @absI_bd (nth ls (nearI ls (nth ls i) ls.length) - nth ls i)
  have h3 : absI (nth ls i - nth ls i) = 0 := by unfold absI; omega
  omega

set_option maxRecDepth 100000 in
set_option maxHeartbeats 4000000 in
theorem law6_any (v : Value) (ls : List Int) (n : Int) (w : World) (hv : NumSl .i64 w v ls) (hm : ls.length ≤ 9223372036854775807) : Calls Try.prog 6 #[.agg #[v], .int .i64 n] w fun e w' => e = .returned (.bool true) ∧ Below w.heap.size w w' := by
  have hB := (Below.refl w.heap.size w).alloc (Nat.le_refl _) (.cells #[v] 49)
  have bP := BoxC.new w 49 #[v]
  have hvw := hv.mono hB
  obtain ⟨a, cap, rfl⟩ := hv.len
  clear hv
  by_cases h66 : 66 < ls.length
  · go_enter Try.func6, Try.ntmps6
    go_wp2_with fail
    refine (known_any _).mono ?_
    rintro e w1 ⟨rfl, hb1⟩
    have bP1 := bP.grown hb1
    have hB1 := hB.trans (hb1.mono hB.size)
    have hv1 := hvw.mono hb1
    clear bP hB hvw hb1
    have c0 := bP1.cell 0 rfl
    go_wp2_with fail
    refine (known_any _).mono ?_
    rintro e w2 ⟨rfl, hb2⟩
    have bP2 := bP1.grown hb2
    have hB2 := hB1.trans (hb2.mono hB1.size)
    have hv2 := hv1.mono hb2
    clear bP1 hB1 hv1 hb2 c0
    have c0 := bP2.cell 0 rfl
    go_wp2
    go_ret
    exact ⟨rfl, hB2⟩
  · have hlen : ls.length ≤ 66 := by omega
    obtain ⟨q, hq⟩ : ∃ q, chkF ls = q := ⟨_, rfl⟩
    have hC1 := fun W h => check_any (.slice a ls.length cap) ls W h (by omega)
    have hC2 := fun W h => Check_any (.slice a ls.length cap) ls W h (by omega)
    have hLv := fun W h => Level_any (.slice a ls.length cap) ls n W h (by omega)
    have hNr := fun W h => Nearest_any (.slice a ls.length cap) ls n W h (by omega)
    have hl : levelF ls n = if q ≠ 0 then (0, q) else if ¬ (0 ≤ n ∧ n ≤ (ls.length : Int) - 1) then (0, 3) else (nth ls n.toNat, 0) := by unfold levelF; rw [hq]
    have hr : nearF ls n = if q ≠ 0 then (0, q) else if ¬ (0 ≤ n ∧ n ≤ 1000) then (0, 3) else (((nearI ls n ls.length : Nat) : Int), 0) := by unfold nearF; rw [hq]
    rw [hq] at hC1 hC2
    replace hC1 := Lib.hid hC1; replace hC2 := Lib.hid hC2
    have hqq := beq_self_int q
    obtain ⟨hqq1, hqq2⟩ := hqq
    clear hm
    by_cases h0 : q = 0
    · subst h0
      have hok := boxOk_of hq
      have hl64 := hok.n1
      have hl0 := hok.n0
      rw [if_neg (by simp)] at hl hr
      by_cases h1 : 0 ≤ n ∧ n ≤ (ls.length : Int) - 1
      · obtain ⟨i, rfl⟩ := Int.eq_ofNat_of_zero_le h1.1
        have hi : i < ls.length := by omega
        rw [if_neg (by simpa using h1), Int.toNat_natCast] at hl
        rw [if_neg (by omega)] at hr
        rw [hl] at hLv
        rw [hr] at hNr
        have hri := hok.r i hi
        have hN2 := fun W h => Nearest_any (.slice a ls.length cap) ls (nth ls i) W h (by omega)
        have hr2 : nearF ls (nth ls i) = (((nearI ls (nth ls i) ls.length : Nat) : Int), 0) := by
          unfold nearF
          rw [hq, if_neg (by simp), if_neg (by simpa using hri)]
        rw [hr2] at hN2
        have hse := nearI_self hi
        have hjl := nearI_lt (ls := ls) (n := nth ls i) hl0 ls.length (Nat.le_refl _)
        replace hLv := Lib.hid hLv; replace hNr := Lib.hid hNr; replace hN2 := Lib.hid hN2
        clear hl hr hr2 h1 hq hqq1 hqq2 h66
        generalize hJ : nearI ls (nth ls i) ls.length = J at *
        clear hJ
        have hii : (i : Int) < (ls.length : Int) := by omega
        have hjj : (J : Int) < (ls.length : Int) := by omega
        go_enter Try.func6, Try.ntmps6
        go_wp2_with fail
        refine (known_any _).mono ?_
        rintro e w1 ⟨rfl, hb1⟩
        have bP1 := bP.grown hb1
        have hB1 := hB.trans (hb1.mono hB.size)
        have hv1 := hvw.mono hb1
        clear bP hB hvw hb1
        have c0 := bP1.cell 0 rfl
        go_wp2_with fail
        refine (hC1.out _ hv1).mono ?_
        rintro e w2 ⟨rfl, hb2⟩
        have bP2 := bP1.grown hb2
        have hB2 := hB1.trans (hb2.mono hB1.size)
        have hv2 := hv1.mono hb2
        clear bP1 hB1 hv1 hb2 c0
        have c0 := bP2.cell 0 rfl
        go_wp2_with fail
        refine (hLv.out _ hv2).mono ?_
        rintro e w3 ⟨rfl, hb3⟩
        have bP3 := bP2.grown hb3
        have hB3 := hB2.trans (hb3.mono hB2.size)
        have hv3 := hv2.mono hb3
        clear bP2 hB2 hv2 hb3 c0
        have c0 := bP3.cell 0 rfl
        go_wp2_with fail
        refine (hNr.out _ hv3).mono ?_
        rintro e w4 ⟨rfl, hb4⟩
        have bP4 := bP3.grown hb4
        have hB4 := hB3.trans (hb4.mono hB3.size)
        have hv4 := hv3.mono hb4
        clear bP3 hB3 hv3 hb4 c0
        have c0 := bP4.cell 0 rfl
        go_wp2_with fail
        refine (hC2.out _ hv4).mono ?_
        rintro e w5 ⟨rfl, hb5⟩
        have bP5 := bP4.grown hb5
        have hB5 := hB4.trans (hb5.mono hB4.size)
        have hv5 := hv4.mono hb5
        clear bP4 hB4 hv4 hb5 c0
        have c0 := bP5.cell 0 rfl
        obtain ⟨b, off, cap', he, hc⟩ := hv5.at hi
        cases he
        have ci := hc i hi
        have cj := hc J hjl
        rw [hse] at cj
        generalize hZ : nth ls i = z at *
        have hzz := beq_self_int z
        obtain ⟨hzz1, hzz2⟩ := hzz
        replace hZ := Lib.hid hZ; replace hse := Lib.hid hse
        clear hc
        go_wp2_with fail
        go_region_held3 (fun w' => w'.cell? ⟨w.heap.size, 0, none⟩ = some (.slice (some ⟨b, off, none⟩) ls.length cap) ∧ w'.cell? ⟨b, off + i, none⟩ = some (.int .i64 z))
          (first | exact ⟨c0, ci⟩ | exact ⟨(hb7.cell (p := ⟨w.heap.size, 0, none⟩) (lt_of_cell c0)).trans c0, (hb7.cell (p := ⟨b, off + i, none⟩) (lt_of_cell ci)).trans ci⟩)
          (first | (go_at_call 27; refine (hN2.out _ (by exact hv5.mono ((Below.refl _ _).drew))).mono ?_; rintro e w7 ⟨rfl, hb7⟩))
        have hbd := below_undrew hb7
        have hvd := hv5
        have bPd := bP5
        have hBd := hB5
        have ci2 := ci
        have cj2 := cj
        replace hb7 := hbd
        clear ci cj c0 hv5 bP5 hB5 hbd
        have bP7 := bPd.grown hb7
        have hB7 := hBd.trans (hb7.mono hBd.size)
        have hv7 := hvd.mono hb7
        replace ci2 := (hb7.cell (p := ⟨b, off + i, none⟩) (lt_of_cell ci2)).trans ci2
        replace cj2 := (hb7.cell (p := ⟨b, off + J, none⟩) (lt_of_cell cj2)).trans cj2
        clear hvd bPd hBd hb7
        have c0 := bP7.cell 0 rfl
        have g1 : decide ((J : Int) < 0) = false := by simp
        have g2 : decide ((ls.length : Int) ≤ (J : Int)) = false := by simp; omega
        have g3 : decide (ls.length ≤ J) = false := by simp; omega
        go_wp2_with fail
        go_quiet (fail)
        clear ci2 cj2 g1 g2 g3
        go_wp2
        go_loopw [12, 13] (fun m ix wr => ∃ k : Nat, k ≤ ls.length ∧ ix = .int .i64 k ∧ m = .int .i64 (nearI ls (i : Int) k : Nat) ∧ Below w7.heap.size w7 wr) (fun _ ix _ => ls.length - (intOf ix).toNat)
        case atStart => exact ⟨0, Nat.zero_le _, rfl, rfl, below_drewN (Below.refl _ _) _⟩
        case round =>
          obtain ⟨k, hk, rfl, rfl, hBr⟩ := hrel
          have c0 := (bP7.grown hBr).cell 0 rfl
          by_cases hlt : k < ls.length
          · have hm1 := nearI_lt (ls := ls) (n := (i : Int)) hok.n0 k hk
            have hnx : nearI ls (i : Int) (k + 1) = if absI (nth ls k - (i : Int)) < absI (nth ls (nearI ls (i : Int) k) - (i : Int)) then k else nearI ls (i : Int) k := rfl
            obtain ⟨b, off, cap', he, hc⟩ := (hv7.mono hBr).at hlt
            cases he
            have c1 := hc k hlt
            have c2 := hc _ hm1
            have r1 := hok.r k hlt
            have r2 := hok.r _ hm1
            clear hc
            generalize nearI ls (i : Int) k = m at c2 r2 hm1 hnx ⊢
            generalize nth ls k = x at c1 r1 hnx
            generalize nth ls m = y at c2 r2 hnx
            have hki : (k : Int) < (ls.length : Int) := by omega
            have hmi : (m : Int) < (ls.length : Int) := by omega
            by_cases hcmp : absI (x - (i : Int)) < absI (y - (i : Int))
            · rw [if_pos hcmp] at hnx
              replace hnx := Lib.hid hnx
              go_wp2_with fail
              go_quiet ((go_at_call 29; exact quiet_left (distance_any _ _ _ (by omega) (by omega) (by omega) (by omega))))
              go_wp2
              go_roundw
              case rel => exact ⟨k + 1, by omega, by go_num, by rw [hnx.out], below_drewN hBr _⟩
              case measure => simp [intOf]; omega
            · rw [if_neg hcmp] at hnx
              replace hnx := Lib.hid hnx
              have hd : decide (absI (x - (i : Int)) < absI (y - (i : Int))) = false := by simpa using hcmp
              go_wp2_with fail
              go_quiet ((go_at_call 29; exact quiet_left (distance_any _ _ _ (by omega) (by omega) (by omega) (by omega))))
              go_wp2
              go_roundw
              case rel => exact ⟨k + 1, by omega, by go_num, by rw [hnx.out], below_drewN hBr _⟩
              case measure => simp [intOf]; omega
          · obtain rfl : k = ls.length := by omega
            generalize nearI ls (i : Int) ls.length = M
            have hMM := (beq_self_int (M : Int)).1
            go_wp2
            go_ret
            exact ⟨rfl, hB7.trans (hBr.mono hB7.size)⟩
      · have hl1 : ¬ (0 ≤ n ∧ n ≤ (ls.length : Int) - 1) := h1
        rw [if_pos hl1] at hl
        rw [hl] at hLv
        replace hLv := Lib.hid hLv
        by_cases h2 : 0 ≤ n ∧ n ≤ 1000
        · rw [if_neg (by simpa using h2)] at hr
          rw [hr] at hNr
          replace hNr := Lib.hid hNr
          have h3 : (ls.length : Int) ≤ n := by omega
          obtain ⟨h21, h22⟩ := h2
          clear hl hr h1 hq hqq1 hqq2 hl1 h66
          go_enter Try.func6, Try.ntmps6
          go_wp2_with fail
          refine (known_any _).mono ?_
          rintro e w1 ⟨rfl, hb1⟩
          have bP1 := bP.grown hb1
          have hB1 := hB.trans (hb1.mono hB.size)
          have hv1 := hvw.mono hb1
          clear bP hB hvw hb1
          have c0 := bP1.cell 0 rfl
          go_wp2_with fail
          refine (hC1.out _ hv1).mono ?_
          rintro e w2 ⟨rfl, hb2⟩
          have bP2 := bP1.grown hb2
          have hB2 := hB1.trans (hb2.mono hB1.size)
          have hv2 := hv1.mono hb2
          clear bP1 hB1 hv1 hb2 c0
          have c0 := bP2.cell 0 rfl
          go_wp2_with fail
          refine (hLv.out _ hv2).mono ?_
          rintro e w3 ⟨rfl, hb3⟩
          have bP3 := bP2.grown hb3
          have hB3 := hB2.trans (hb3.mono hB2.size)
          have hv3 := hv2.mono hb3
          clear bP2 hB2 hv2 hb3 c0
          have c0 := bP3.cell 0 rfl
          go_wp2_with fail
          refine (hNr.out _ hv3).mono ?_
          rintro e w4 ⟨rfl, hb4⟩
          have bP4 := bP3.grown hb4
          have hB4 := hB3.trans (hb4.mono hB3.size)
          have hv4 := hv3.mono hb4
          clear bP3 hB3 hv3 hb4 c0
          have c0 := bP4.cell 0 rfl
          go_wp2_with fail
          refine (hC2.out _ hv4).mono ?_
          rintro e w5 ⟨rfl, hb5⟩
          have bP5 := bP4.grown hb5
          have hB5 := hB4.trans (hb5.mono hB4.size)
          have hv5 := hv4.mono hb5
          clear bP4 hB4 hv4 hb5 c0
          have c0 := bP5.cell 0 rfl
          go_wp2
          go_loopw [12, 13] (fun m ix wr => ∃ k : Nat, k ≤ ls.length ∧ ix = .int .i64 k ∧ m = .int .i64 (nearI ls n k : Nat) ∧ Below w5.heap.size w5 wr) (fun _ ix _ => ls.length - (intOf ix).toNat)
          case atStart => exact ⟨0, Nat.zero_le _, rfl, rfl, Below.refl _ _⟩
          case round =>
            obtain ⟨k, hk, rfl, rfl, hBr⟩ := hrel
            have c0 := (bP5.grown hBr).cell 0 rfl
            by_cases hlt : k < ls.length
            · have hm1 := nearI_lt (ls := ls) (n := n) hok.n0 k hk
              have hnx : nearI ls n (k + 1) = if absI (nth ls k - n) < absI (nth ls (nearI ls n k) - n) then k else nearI ls n k := rfl
              obtain ⟨b, off, cap', he, hc⟩ := (hv5.mono hBr).at hlt
              cases he
              have c1 := hc k hlt
              have c2 := hc _ hm1
              have r1 := hok.r k hlt
              have r2 := hok.r _ hm1
              clear hc
              generalize nearI ls n k = m at c2 r2 hm1 hnx ⊢
              generalize nth ls k = x at c1 r1 hnx
              generalize nth ls m = y at c2 r2 hnx
              have hki : (k : Int) < (ls.length : Int) := by omega
              have hmi : (m : Int) < (ls.length : Int) := by omega
              by_cases hcmp : absI (x - n) < absI (y - n)
              · rw [if_pos hcmp] at hnx
                replace hnx := Lib.hid hnx
                go_wp2_with fail
                go_quiet ((go_at_call 29; exact quiet_left (distance_any _ _ _ (by omega) (by omega) (by omega) (by omega))))
                go_wp2
                go_roundw
                case rel => exact ⟨k + 1, by omega, by go_num, by rw [hnx.out], below_drewN hBr _⟩
                case measure => simp [intOf]; omega
              · rw [if_neg hcmp] at hnx
                replace hnx := Lib.hid hnx
                have hd : decide (absI (x - n) < absI (y - n)) = false := by simpa using hcmp
                go_wp2_with fail
                go_quiet ((go_at_call 29; exact quiet_left (distance_any _ _ _ (by omega) (by omega) (by omega) (by omega))))
                go_wp2
                go_roundw
                case rel => exact ⟨k + 1, by omega, by go_num, by rw [hnx.out], below_drewN hBr _⟩
                case measure => simp [intOf]; omega
            · obtain rfl : k = ls.length := by omega
              generalize nearI ls n ls.length = M
              have hMM := (beq_self_int (M : Int)).1
              go_wp2
              go_ret
              exact ⟨rfl, hB5.trans (hBr.mono hB5.size)⟩
        · rw [if_pos h2] at hr
          rw [hr] at hNr
          replace hNr := Lib.hid hNr
          rcases (by omega : n < 0 ∨ ((ls.length : Int) ≤ n ∧ 0 ≤ n ∧ 1000 < n)) with h3 | ⟨h3, h4, h5⟩
          all_goals
            clear hl hr h1 hq hqq1 hqq2 hl1 h2 h66
            go_enter Try.func6, Try.ntmps6
            go_wp2_with fail
            refine (known_any _).mono ?_
            rintro e w1 ⟨rfl, hb1⟩
            have bP1 := bP.grown hb1
            have hB1 := hB.trans (hb1.mono hB.size)
            have hv1 := hvw.mono hb1
            clear bP hB hvw hb1
            have c0 := bP1.cell 0 rfl
            go_wp2_with fail
            refine (hC1.out _ hv1).mono ?_
            rintro e w2 ⟨rfl, hb2⟩
            have bP2 := bP1.grown hb2
            have hB2 := hB1.trans (hb2.mono hB1.size)
            have hv2 := hv1.mono hb2
            clear bP1 hB1 hv1 hb2 c0
            have c0 := bP2.cell 0 rfl
            go_wp2_with fail
            refine (hLv.out _ hv2).mono ?_
            rintro e w3 ⟨rfl, hb3⟩
            have bP3 := bP2.grown hb3
            have hB3 := hB2.trans (hb3.mono hB2.size)
            have hv3 := hv2.mono hb3
            clear bP2 hB2 hv2 hb3 c0
            have c0 := bP3.cell 0 rfl
            go_wp2_with fail
            refine (hNr.out _ hv3).mono ?_
            rintro e w4 ⟨rfl, hb4⟩
            have bP4 := bP3.grown hb4
            have hB4 := hB3.trans (hb4.mono hB3.size)
            have hv4 := hv3.mono hb4
            clear bP3 hB3 hv3 hb4 c0
            have c0 := bP4.cell 0 rfl
            go_wp2_with fail
            refine (hC2.out _ hv4).mono ?_
            rintro e w5 ⟨rfl, hb5⟩
            have bP5 := bP4.grown hb5
            have hB5 := hB4.trans (hb5.mono hB4.size)
            have hv5 := hv4.mono hb5
            clear bP4 hB4 hv4 hb5 c0
            have c0 := bP5.cell 0 rfl
            go_wp2
            go_ret
            exact ⟨rfl, hB5⟩
    · rw [if_pos h0] at hl hr
      rw [hl] at hLv
      rw [hr] at hNr
      obtain ⟨g1, g2⟩ := neq_of h0
      replace hLv := Lib.hid hLv; replace hNr := Lib.hid hNr
      clear hl hr h0 hq h66
      go_enter Try.func6, Try.ntmps6
      go_wp2_with fail
      refine (known_any _).mono ?_
      rintro e w1 ⟨rfl, hb1⟩
      have bP1 := bP.grown hb1
      have hB1 := hB.trans (hb1.mono hB.size)
      have hv1 := hvw.mono hb1
      clear bP hB hvw hb1
      have c0 := bP1.cell 0 rfl
      go_wp2_with fail
      refine (hC1.out _ hv1).mono ?_
      rintro e w2 ⟨rfl, hb2⟩
      have bP2 := bP1.grown hb2
      have hB2 := hB1.trans (hb2.mono hB1.size)
      have hv2 := hv1.mono hb2
      clear bP1 hB1 hv1 hb2 c0
      have c0 := bP2.cell 0 rfl
      go_wp2_with fail
      refine (hLv.out _ hv2).mono ?_
      rintro e w3 ⟨rfl, hb3⟩
      have bP3 := bP2.grown hb3
      have hB3 := hB2.trans (hb3.mono hB2.size)
      have hv3 := hv2.mono hb3
      clear bP2 hB2 hv2 hb3 c0
      have c0 := bP3.cell 0 rfl
      go_wp2_with fail
      refine (hNr.out _ hv3).mono ?_
      rintro e w4 ⟨rfl, hb4⟩
      have bP4 := bP3.grown hb4
      have hB4 := hB3.trans (hb4.mono hB3.size)
      have hv4 := hv3.mono hb4
      clear bP3 hB3 hv3 hb4 c0
      have c0 := bP4.cell 0 rfl
      go_wp2_with fail
      refine (hC2.out _ hv4).mono ?_
      rintro e w5 ⟨rfl, hb5⟩
      have bP5 := bP4.grown hb5
      have hB5 := hB4.trans (hb5.mono hB4.size)
      have hv5 := hv4.mono hb5
      clear bP4 hB4 hv4 hb5 c0
      have c0 := bP5.cell 0 rfl
      go_wp2
      go_ret
      exact ⟨rfl, hB5⟩
end Go.Proofs.Ytbfldhmpgealpaa
