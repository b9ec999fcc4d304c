/- The walk of SwellMoves. Conditions: lists of at most 2^63 elements. -/
import Derived.Test.YtbfldhmpgealpaaW16
import Derived.Test.YtbfldhmpgealpaaL3
import Derived.Deep.RegionHeld3
namespace Go.Proofs.Ytbfldhmpgealpaa
open Go.RowKit

theorem mv_take {l : List Mv} {k j : Nat} (h : j < k) : mv (l.take k) j = mv l j := by simp [mv, h]
theorem MvOk.take {N : Int} {l : List Mv} (h : MvOk N l) (k : Nat) (hk : k ≤ l.length) : MvOk N (l.take k) := by
  have hl : (l.take k).length = k := by simp; omega
  refine ⟨by have := h.len; omega, h.n1, fun j hj => ?_, fun j hj => ?_⟩
  · rw [mv_take (by omega)]; exact h.r j (by omega)
  · rw [mv_take (by omega), mv_take (by omega)]; exact h.o j (by omega)
theorem MvOk.lt {N : Int} {l : List Mv} (h : MvOk N l) : ∀ i j : Nat, i < j → j < l.length → (mv l i).t < (mv l j).t
  | i, 0, hij, _ => by omega
  | i, j + 1, hij, hj => by
    have h1 := h.o j hj
    rcases Nat.lt_or_ge i j with h2 | h2
    · have := h.lt i j h2 (by omega); omega
    · obtain rfl : i = j := by omega
      exact h1
theorem stgAt_take {l : List Mv} : ∀ {k j : Nat}, j < k → stgAt (l.take k) j = stgAt l j
  | _, 0, _ => rfl
  | k, j + 1, h => by
    unfold stgAt
    rw [stgAt_take (by omega), mv_take (by omega), mv_take h]
theorem stage_take {N : Int} {l : List Mv} (h : MvOk N l) {k : Nat} (hk : k < l.length) : stageF (l.take k) (mv l k).t = stgAt l k := by
  have hl : (l.take k).length = k := by simp; omega
  rw [stageF_end (fun j hj => by rw [mv_take (by omega)]; have := h.lt j k (by omega) hk; omega), hl]
  unfold lastK
  split
  · rename_i h0; subst h0; rfl
  · obtain ⟨j, rfl⟩ : ∃ j, k = j + 1 := ⟨k - 1, by omega⟩
    show afterF (mv (l.take (j + 1)) j) (stgAt (l.take (j + 1)) j) (mv l (j + 1)).t = afterF (mv l j) (stgAt l j) (mv l (j + 1)).t
    rw [mv_take (by omega), stgAt_take (by omega)]
theorem MvSl.take {w : World} {b off cap : Nat} {l : List Mv} (h : MvSl w (.slice (some ⟨b, off, none⟩) l.length cap) l) (k : Nat) (hk : k < l.length) : MvSl w (.slice (some ⟨b, off, none⟩) k cap) (l.take k) := by
  have hl : (l.take k).length = k := by simp; omega
  obtain ⟨b', off', cap', he, hc⟩ := h.at hk
  cases he
  have hcap := h.cap.resolve_left (fun e => by subst e; simp at hk)
  refine .inr ⟨b, off, cap, by rw [hl], fun i hi => ?_, by omega⟩
  rw [mv_take (by omega)]
  exact hc i (by omega)

set_option maxRecDepth 100000 in
set_option maxHeartbeats 4000000 in
theorem law8_any (v : Value) (ls : List Int) (v2 : Value) (l : List Mv) (tick : Int) (w : World) (hv : NumSl .i64 w v ls) (hm : ls.length ≤ 9223372036854775807) (hv2 : MvSl w v2 l) (hl : l.length ≤ 9223372036854775807) :
    Calls Try.prog 8 #[.agg #[v], v2, .int .i64 tick] w fun e w' => e = .returned (.bool true) ∧ Below w.heap.size w w' := by
  have hB := (Below.refl w.heap.size w).alloc (Nat.le_refl _) (.cells #[v] 49)
  have bP := BoxC.new w 49 #[v]
  have hvw := hv.mono hB
  have hmw := hv2.mono hB
  obtain ⟨a, cap, rfl⟩ := hv.len
  obtain ⟨a2, cap2, rfl⟩ := hv2.len
  clear hv hv2
  by_cases h66 : 66 < ls.length
  · go_enter Try.func8, Try.ntmps8
    go_wp2_with fail
    refine (known_any _).mono ?_
    rintro e w1 ⟨rfl, hb1⟩
    have bP1 := bP.grown hb1
    have hB1 := hB.trans (hb1.mono hB.size)
    have hv1 := hvw.mono hb1
    have hm1 := hmw.mono hb1
    clear bP hB hvw hmw hb1
    have c0 := bP1.cell 0 rfl
    go_wp2_with fail
    refine (known_any _).mono ?_
    rintro e w2 ⟨rfl, hb2⟩
    have bP2 := bP1.grown hb2
    have hB2 := hB1.trans (hb2.mono hB1.size)
    have hv2 := hv1.mono hb2
    have hm2 := hm1.mono hb2
    clear bP1 hB1 hv1 hm1 hb2 c0
    have c0 := bP2.cell 0 rfl
    go_wp2
    go_ret
    exact ⟨rfl, hB2⟩
  · by_cases h8 : 8 < l.length
    · go_enter Try.func8, Try.ntmps8
      go_wp2_with fail
      refine (known_any _).mono ?_
      rintro e w1 ⟨rfl, hb1⟩
      have bP1 := bP.grown hb1
      have hB1 := hB.trans (hb1.mono hB.size)
      have hv1 := hvw.mono hb1
      have hm1 := hmw.mono hb1
      clear bP hB hvw hmw hb1
      have c0 := bP1.cell 0 rfl
      go_wp2_with fail
      refine (known_any _).mono ?_
      rintro e w2 ⟨rfl, hb2⟩
      have bP2 := bP1.grown hb2
      have hB2 := hB1.trans (hb2.mono hB1.size)
      have hv2 := hv1.mono hb2
      have hm2 := hm1.mono hb2
      clear bP1 hB1 hv1 hm1 hb2 c0
      have c0 := bP2.cell 0 rfl
      go_wp2
      go_ret
      exact ⟨rfl, hB2⟩
    · have hls : ls.length ≤ 66 := by omega
      have hll : l.length ≤ 8 := by omega
      obtain ⟨q, hq⟩ : ∃ q, cmF ls l = q := ⟨_, rfl⟩
      obtain ⟨d, hd⟩ : ∃ d, chkF ls = d := ⟨_, rfl⟩
      have hq1 : q = if d ≠ 0 then d else movesF ls.length l := by rw [← hq]; unfold cmF; rw [hd]
      have hC1 := fun W h => check_any (.slice a ls.length cap) ls W h (by omega)
      have hC2 := fun W h1 h2 => CheckMoves_any (.slice a ls.length cap) ls (.slice a2 l.length cap2) l W h1 (by omega) h2 (by omega)
      have hC3 := fun W h1 h2 => moves_any (.slice a ls.length cap) ls (.slice a2 l.length cap2) l W h1 (by omega) h2 (by omega)
      have hS := fun W h1 h2 => Stage_any (.slice a ls.length cap) ls (.slice a2 l.length cap2) l tick W h1 (by omega) h2 (by omega)
      have hA := fun W h1 h2 => Arrival_any (.slice a ls.length cap) ls (.slice a2 l.length cap2) l W h1 (by omega) h2 (by omega)
      have hSF : StageF ls l tick = if q ≠ 0 then (0, q) else if ¬ (0 ≤ tick ∧ tick ≤ 2000000000) then (0, 3) else (stageF l tick, 0) := by unfold StageF; rw [hq]
      have hAF : ArrivalF ls l = if q ≠ 0 then (0, q) else (arrivalF l, 0) := by unfold ArrivalF; rw [hq]
      rw [hd] at hC1
      rw [hq] at hC2
      replace hC1 := Lib.hid hC1; replace hC2 := Lib.hid hC2
      have hqq := beq_self_int q
      obtain ⟨hqq1, hqq2⟩ := hqq
      clear hm hl h66 h8
      by_cases hd0 : d = 0
      · subst hd0
        rw [if_neg (by simp)] at hq1
        rw [← hq1] at hC3
        replace hC3 := Lib.hid hC3
        by_cases h0 : q = 0
        · subst h0
          obtain ⟨_, hbok, hok⟩ := cm_ok hq
          clear hq1 hq hd hqq1 hqq2
          rw [if_neg (by simp)] at hSF hAF
          rw [hAF] at hA
          clear hAF
          have hst := fun W h1 h2 h3 => stage_any (.slice a2 l.length cap2) ls.length l tick W h1 hok h2 h3
          generalize stageF l tick = X at hSF hst
          have hXX := (beq_self_int X).1
          replace hst := Lib.hid hst
          rcases (by omega : tick < 0 ∨ (0 ≤ tick ∧ 2000000000 < tick) ∨ (0 ≤ tick ∧ tick ≤ 2000000000)) with ht | ⟨ht, ht2⟩ | ⟨ht, ht2⟩
          · rw [if_pos (by omega)] at hSF
            rw [hSF] at hS
            clear hSF
            replace hS := Lib.hid hS
            by_cases hk : l.length = 0
            · have ha0 : arrivalF l = 0 := by unfold arrivalF lastK; rw [if_pos hk]
              rw [ha0] at hA
              have hk2 : (l.length : Int) ≤ 0 := by omega
              clear ha0
              replace hk := Lib.hid hk; replace hA := Lib.hid hA
              go_enter Try.func8, Try.ntmps8
              go_wp2_with fail
              refine (known_any _).mono ?_
              rintro e w1 ⟨rfl, hb1⟩
              have bP1 := bP.grown hb1
              have hB1 := hB.trans (hb1.mono hB.size)
              have hv1 := hvw.mono hb1
              have hm1 := hmw.mono hb1
              clear bP hB hvw hmw hb1
              have c0 := bP1.cell 0 rfl
              go_wp2_with fail
              refine (hC1.out _ hv1).mono ?_
              rintro e w2 ⟨rfl, hb2⟩
              have bP2 := bP1.grown hb2
              have hB2 := hB1.trans (hb2.mono hB1.size)
              have hv2 := hv1.mono hb2
              have hm2 := hm1.mono hb2
              clear bP1 hB1 hv1 hm1 hb2 c0
              have c0 := bP2.cell 0 rfl
              go_wp2_with fail
              refine (hC3.out _ hv2 hm2).mono ?_
              rintro e w3 ⟨rfl, hb3⟩
              have bP3 := bP2.grown hb3
              have hB3 := hB2.trans (hb3.mono hB2.size)
              have hv3 := hv2.mono hb3
              have hm3 := hm2.mono hb3
              clear bP2 hB2 hv2 hm2 hb3 c0
              have c0 := bP3.cell 0 rfl
              go_wp2_with fail
              refine (hS.out _ hv3 hm3).mono ?_
              rintro e w4 ⟨rfl, hb4⟩
              have bP4 := bP3.grown hb4
              have hB4 := hB3.trans (hb4.mono hB3.size)
              have hv4 := hv3.mono hb4
              have hm4 := hm3.mono hb4
              clear bP3 hB3 hv3 hm3 hb4 c0
              have c0 := bP4.cell 0 rfl
              go_wp2_with fail
              refine (hA.out _ hv4 hm4).mono ?_
              rintro e w5 ⟨rfl, hb5⟩
              have bP5 := bP4.grown hb5
              have hB5 := hB4.trans (hb5.mono hB4.size)
              have hv5 := hv4.mono hb5
              have hm5 := hm4.mono hb5
              clear bP4 hB4 hv4 hm4 hb5 c0
              have c0 := bP5.cell 0 rfl
              go_wp2_with fail
              refine (hC2.out _ hv5 hm5).mono ?_
              rintro e w6 ⟨rfl, hb6⟩
              have bP6 := bP5.grown hb6
              have hB6 := hB5.trans (hb6.mono hB5.size)
              have hv6 := hv5.mono hb6
              have hm6 := hm5.mono hb6
              clear bP5 hB5 hv5 hm5 hb6 c0
              have c0 := bP6.cell 0 rfl
              go_wp2
              go_ret
              exact ⟨rfl, hB6⟩
            · have hk1 : l.length - 1 < l.length := by omega
              have hcap2 := hmw.cap.resolve_left (fun e => hk (by rw [e]; rfl))
              have hr := hok.r _ hk1
              have hsb := stgAt_bd hok _ hk1
              have hN := hok.n1
              have hs2 := stage_take hok hk1
              have hok2 := hok.take (l.length - 1) (by omega)
              have ha0 : arrivalF l = arrAt l (l.length - 1) := by unfold arrivalF lastK; rw [if_neg hk]
              unfold arrAt at ha0
              unfold MvR at hr
              have g1 : (1 : Int) ≤ (l.length : Int) := by omega
              have g2 : (l.length : Int) - 1 ≤ (cap2 : Int) := by omega
              have g3 : ((l.length : Int) - 1).toNat = l.length - 1 := by omega
              have g4 : (l.length : Int) - 1 < (l.length : Int) := by omega
              replace hk := Lib.hid hk
              generalize hmk : mv l (l.length - 1) = mk at *
              generalize stgAt l (l.length - 1) = ST at hsb hs2 ha0
              obtain ⟨t, s, p⟩ := mk
              simp only at hr hs2 ha0
              have hm1' := @absI_bd (s - ST)
              obtain ⟨m, hm'⟩ : ∃ m, absI (s - ST) = m := ⟨_, rfl⟩
              rw [hm'] at ha0 hm1'
              have hm0 : 0 ≤ m ∧ m ≤ 64 := by omega
              have hmp : 0 ≤ p * m ∧ p * m ≤ 640000 := by
                have a1 : p * m ≤ p * 64 := Int.mul_le_mul_of_nonneg_left hm0.2 (by omega)
                have a2 : 0 ≤ p * m := Int.mul_nonneg (by omega) hm0.1
                omega
              rw [Int.mul_comm m p] at ha0
              obtain ⟨D, hD⟩ : ∃ D, t + p * m = D := ⟨_, rfl⟩
              rw [hD] at ha0
              rw [ha0] at hA
              have hDD := (beq_self_int D).2
              have hcB := fun W => distance_any s ST W (by omega) (by omega) (by omega) (by omega)
              rw [hm'] at hcB
              have x1 : IntKind.i64.wrap (p * m) = p * m := IntWalk.i64_in _ (by omega)
              have x2 : IntKind.i64.wrap (t + p * m) = D := by rw [hD]; exact IntWalk.i64_in _ (by omega)
              have hcA := fun W h => stage_any (.slice a2 (l.length - 1) cap2) ls.length (l.take (l.length - 1)) t W h hok2 (by omega) (by omega)
              rw [hs2] at hcA
              replace hA := Lib.hid hA; replace hcA := Lib.hid hcA; replace hcB := Lib.hid hcB; replace x1 := Lib.hid x1; replace x2 := Lib.hid x2; replace hmk := Lib.hid hmk
              clear hs2 ha0 hm' hm1' hD hok2
              go_enter Try.func8, Try.ntmps8
              go_wp2_with fail
              refine (known_any _).mono ?_
              rintro e w1 ⟨rfl, hb1⟩
              have bP1 := bP.grown hb1
              have hB1 := hB.trans (hb1.mono hB.size)
              have hv1 := hvw.mono hb1
              have hm1 := hmw.mono hb1
              clear bP hB hvw hmw hb1
              have c0 := bP1.cell 0 rfl
              go_wp2_with fail
              refine (hC1.out _ hv1).mono ?_
              rintro e w2 ⟨rfl, hb2⟩
              have bP2 := bP1.grown hb2
              have hB2 := hB1.trans (hb2.mono hB1.size)
              have hv2 := hv1.mono hb2
              have hm2 := hm1.mono hb2
              clear bP1 hB1 hv1 hm1 hb2 c0
              have c0 := bP2.cell 0 rfl
              go_wp2_with fail
              refine (hC3.out _ hv2 hm2).mono ?_
              rintro e w3 ⟨rfl, hb3⟩
              have bP3 := bP2.grown hb3
              have hB3 := hB2.trans (hb3.mono hB2.size)
              have hv3 := hv2.mono hb3
              have hm3 := hm2.mono hb3
              clear bP2 hB2 hv2 hm2 hb3 c0
              have c0 := bP3.cell 0 rfl
              go_wp2_with fail
              refine (hS.out _ hv3 hm3).mono ?_
              rintro e w4 ⟨rfl, hb4⟩
              have bP4 := bP3.grown hb4
              have hB4 := hB3.trans (hb4.mono hB3.size)
              have hv4 := hv3.mono hb4
              have hm4 := hm3.mono hb4
              clear bP3 hB3 hv3 hm3 hb4 c0
              have c0 := bP4.cell 0 rfl
              go_wp2_with fail
              refine (hA.out _ hv4 hm4).mono ?_
              rintro e w5 ⟨rfl, hb5⟩
              have bP5 := bP4.grown hb5
              have hB5 := hB4.trans (hb5.mono hB4.size)
              have hv5 := hv4.mono hb5
              have hm5 := hm4.mono hb5
              clear bP4 hB4 hv4 hm4 hb5 c0
              have c0 := bP5.cell 0 rfl
              go_wp2_with fail
              refine (hC2.out _ hv5 hm5).mono ?_
              rintro e w6 ⟨rfl, hb6⟩
              have bP6 := bP5.grown hb6
              have hB6 := hB5.trans (hb6.mono hB5.size)
              have hv6 := hv5.mono hb6
              have hm6 := hm5.mono hb6
              clear bP5 hB5 hv5 hm5 hb6 c0
              have c0 := bP6.cell 0 rfl
              obtain ⟨b, off, cap', he, hc⟩ := hm6.at hk1
              cases he
              have htk := hm6.take _ hk1
              obtain ⟨k1', k2', k3'⟩ := hc _ hk1
              rw [hmk.out] at k1' k2' k3'
              simp only at k1' k2' k3'
              clear hc
              go_wp2_with fail
              replace x1 := x1.out; replace x2 := x2.out
              go_region_held3 (fun w' => w'.cell? ⟨b, off + (l.length - 1) * 3, none⟩ = some (.int .i64 t) ∧ w'.cell? ⟨b, off + (l.length - 1) * 3 + 1, none⟩ = some (.int .i64 s) ∧ w'.cell? ⟨b, off + (l.length - 1) * 3 + 2, none⟩ = some (.int .i64 p))
                (first | exact ⟨k1', k2', k3'⟩ | exact ⟨(hb7.cell (p := ⟨b, off + (l.length - 1) * 3, none⟩) (lt_of_cell k1')).trans k1', (hb7.cell (p := ⟨b, off + (l.length - 1) * 3 + 1, none⟩) (lt_of_cell k2')).trans k2', (hb7.cell (p := ⟨b, off + (l.length - 1) * 3 + 2, none⟩) (lt_of_cell k3')).trans k3'⟩)
                (first | (go_at_call 35; refine (hcA.out _ (by exact htk.mono ((Below.refl _ _).drew))).mono ?_; rintro e w7 ⟨rfl, hb7⟩) | (go_at_call 29; refine (hcB.out _).mono ?_; rintro e w8 ⟨rfl, rfl⟩))
              have hbd := below_undrew hb7
              have hB7 := hB6.trans (hbd.mono hB6.size)
              have hm7 := hm6.mono hbd
              clear x1 x2 k1' k2' k3' c0 hb7 hbd htk
              go_wp2
              go_ret
              exact ⟨rfl, hB7⟩
          · rw [if_pos (by omega)] at hSF
            rw [hSF] at hS
            clear hSF
            replace hS := Lib.hid hS
            by_cases hk : l.length = 0
            · have ha0 : arrivalF l = 0 := by unfold arrivalF lastK; rw [if_pos hk]
              rw [ha0] at hA
              have hk2 : (l.length : Int) ≤ 0 := by omega
              clear ha0
              replace hk := Lib.hid hk; replace hA := Lib.hid hA
              go_enter Try.func8, Try.ntmps8
              go_wp2_with fail
              refine (known_any _).mono ?_
              rintro e w1 ⟨rfl, hb1⟩
              have bP1 := bP.grown hb1
              have hB1 := hB.trans (hb1.mono hB.size)
              have hv1 := hvw.mono hb1
              have hm1 := hmw.mono hb1
              clear bP hB hvw hmw hb1
              have c0 := bP1.cell 0 rfl
              go_wp2_with fail
              refine (hC1.out _ hv1).mono ?_
              rintro e w2 ⟨rfl, hb2⟩
              have bP2 := bP1.grown hb2
              have hB2 := hB1.trans (hb2.mono hB1.size)
              have hv2 := hv1.mono hb2
              have hm2 := hm1.mono hb2
              clear bP1 hB1 hv1 hm1 hb2 c0
              have c0 := bP2.cell 0 rfl
              go_wp2_with fail
              refine (hC3.out _ hv2 hm2).mono ?_
              rintro e w3 ⟨rfl, hb3⟩
              have bP3 := bP2.grown hb3
              have hB3 := hB2.trans (hb3.mono hB2.size)
              have hv3 := hv2.mono hb3
              have hm3 := hm2.mono hb3
              clear bP2 hB2 hv2 hm2 hb3 c0
              have c0 := bP3.cell 0 rfl
              go_wp2_with fail
              refine (hS.out _ hv3 hm3).mono ?_
              rintro e w4 ⟨rfl, hb4⟩
              have bP4 := bP3.grown hb4
              have hB4 := hB3.trans (hb4.mono hB3.size)
              have hv4 := hv3.mono hb4
              have hm4 := hm3.mono hb4
              clear bP3 hB3 hv3 hm3 hb4 c0
              have c0 := bP4.cell 0 rfl
              go_wp2_with fail
              refine (hA.out _ hv4 hm4).mono ?_
              rintro e w5 ⟨rfl, hb5⟩
              have bP5 := bP4.grown hb5
              have hB5 := hB4.trans (hb5.mono hB4.size)
              have hv5 := hv4.mono hb5
              have hm5 := hm4.mono hb5
              clear bP4 hB4 hv4 hm4 hb5 c0
              have c0 := bP5.cell 0 rfl
              go_wp2_with fail
              refine (hC2.out _ hv5 hm5).mono ?_
              rintro e w6 ⟨rfl, hb6⟩
              have bP6 := bP5.grown hb6
              have hB6 := hB5.trans (hb6.mono hB5.size)
              have hv6 := hv5.mono hb6
              have hm6 := hm5.mono hb6
              clear bP5 hB5 hv5 hm5 hb6 c0
              have c0 := bP6.cell 0 rfl
              go_wp2
              go_ret
              exact ⟨rfl, hB6⟩
            · have hk1 : l.length - 1 < l.length := by omega
              have hcap2 := hmw.cap.resolve_left (fun e => hk (by rw [e]; rfl))
              have hr := hok.r _ hk1
              have hsb := stgAt_bd hok _ hk1
              have hN := hok.n1
              have hs2 := stage_take hok hk1
              have hok2 := hok.take (l.length - 1) (by omega)
              have ha0 : arrivalF l = arrAt l (l.length - 1) := by unfold arrivalF lastK; rw [if_neg hk]
              unfold arrAt at ha0
              unfold MvR at hr
              have g1 : (1 : Int) ≤ (l.length : Int) := by omega
              have g2 : (l.length : Int) - 1 ≤ (cap2 : Int) := by omega
              have g3 : ((l.length : Int) - 1).toNat = l.length - 1 := by omega
              have g4 : (l.length : Int) - 1 < (l.length : Int) := by omega
              replace hk := Lib.hid hk
              generalize hmk : mv l (l.length - 1) = mk at *
              generalize stgAt l (l.length - 1) = ST at hsb hs2 ha0
              obtain ⟨t, s, p⟩ := mk
              simp only at hr hs2 ha0
              have hm1' := @absI_bd (s - ST)
              obtain ⟨m, hm'⟩ : ∃ m, absI (s - ST) = m := ⟨_, rfl⟩
              rw [hm'] at ha0 hm1'
              have hm0 : 0 ≤ m ∧ m ≤ 64 := by omega
              have hmp : 0 ≤ p * m ∧ p * m ≤ 640000 := by
                have a1 : p * m ≤ p * 64 := Int.mul_le_mul_of_nonneg_left hm0.2 (by omega)
                have a2 : 0 ≤ p * m := Int.mul_nonneg (by omega) hm0.1
                omega
              rw [Int.mul_comm m p] at ha0
              obtain ⟨D, hD⟩ : ∃ D, t + p * m = D := ⟨_, rfl⟩
              rw [hD] at ha0
              rw [ha0] at hA
              have hDD := (beq_self_int D).2
              have hcB := fun W => distance_any s ST W (by omega) (by omega) (by omega) (by omega)
              rw [hm'] at hcB
              have x1 : IntKind.i64.wrap (p * m) = p * m := IntWalk.i64_in _ (by omega)
              have x2 : IntKind.i64.wrap (t + p * m) = D := by rw [hD]; exact IntWalk.i64_in _ (by omega)
              have hcA := fun W h => stage_any (.slice a2 (l.length - 1) cap2) ls.length (l.take (l.length - 1)) t W h hok2 (by omega) (by omega)
              rw [hs2] at hcA
              replace hA := Lib.hid hA; replace hcA := Lib.hid hcA; replace hcB := Lib.hid hcB; replace x1 := Lib.hid x1; replace x2 := Lib.hid x2; replace hmk := Lib.hid hmk
              clear hs2 ha0 hm' hm1' hD hok2
              go_enter Try.func8, Try.ntmps8
              go_wp2_with fail
              refine (known_any _).mono ?_
              rintro e w1 ⟨rfl, hb1⟩
              have bP1 := bP.grown hb1
              have hB1 := hB.trans (hb1.mono hB.size)
              have hv1 := hvw.mono hb1
              have hm1 := hmw.mono hb1
              clear bP hB hvw hmw hb1
              have c0 := bP1.cell 0 rfl
              go_wp2_with fail
              refine (hC1.out _ hv1).mono ?_
              rintro e w2 ⟨rfl, hb2⟩
              have bP2 := bP1.grown hb2
              have hB2 := hB1.trans (hb2.mono hB1.size)
              have hv2 := hv1.mono hb2
              have hm2 := hm1.mono hb2
              clear bP1 hB1 hv1 hm1 hb2 c0
              have c0 := bP2.cell 0 rfl
              go_wp2_with fail
              refine (hC3.out _ hv2 hm2).mono ?_
              rintro e w3 ⟨rfl, hb3⟩
              have bP3 := bP2.grown hb3
              have hB3 := hB2.trans (hb3.mono hB2.size)
              have hv3 := hv2.mono hb3
              have hm3 := hm2.mono hb3
              clear bP2 hB2 hv2 hm2 hb3 c0
              have c0 := bP3.cell 0 rfl
              go_wp2_with fail
              refine (hS.out _ hv3 hm3).mono ?_
              rintro e w4 ⟨rfl, hb4⟩
              have bP4 := bP3.grown hb4
              have hB4 := hB3.trans (hb4.mono hB3.size)
              have hv4 := hv3.mono hb4
              have hm4 := hm3.mono hb4
              clear bP3 hB3 hv3 hm3 hb4 c0
              have c0 := bP4.cell 0 rfl
              go_wp2_with fail
              refine (hA.out _ hv4 hm4).mono ?_
              rintro e w5 ⟨rfl, hb5⟩
              have bP5 := bP4.grown hb5
              have hB5 := hB4.trans (hb5.mono hB4.size)
              have hv5 := hv4.mono hb5
              have hm5 := hm4.mono hb5
              clear bP4 hB4 hv4 hm4 hb5 c0
              have c0 := bP5.cell 0 rfl
              go_wp2_with fail
              refine (hC2.out _ hv5 hm5).mono ?_
              rintro e w6 ⟨rfl, hb6⟩
              have bP6 := bP5.grown hb6
              have hB6 := hB5.trans (hb6.mono hB5.size)
              have hv6 := hv5.mono hb6
              have hm6 := hm5.mono hb6
              clear bP5 hB5 hv5 hm5 hb6 c0
              have c0 := bP6.cell 0 rfl
              obtain ⟨b, off, cap', he, hc⟩ := hm6.at hk1
              cases he
              have htk := hm6.take _ hk1
              obtain ⟨k1', k2', k3'⟩ := hc _ hk1
              rw [hmk.out] at k1' k2' k3'
              simp only at k1' k2' k3'
              clear hc
              go_wp2_with fail
              replace x1 := x1.out; replace x2 := x2.out
              go_region_held3 (fun w' => w'.cell? ⟨b, off + (l.length - 1) * 3, none⟩ = some (.int .i64 t) ∧ w'.cell? ⟨b, off + (l.length - 1) * 3 + 1, none⟩ = some (.int .i64 s) ∧ w'.cell? ⟨b, off + (l.length - 1) * 3 + 2, none⟩ = some (.int .i64 p))
                (first | exact ⟨k1', k2', k3'⟩ | exact ⟨(hb7.cell (p := ⟨b, off + (l.length - 1) * 3, none⟩) (lt_of_cell k1')).trans k1', (hb7.cell (p := ⟨b, off + (l.length - 1) * 3 + 1, none⟩) (lt_of_cell k2')).trans k2', (hb7.cell (p := ⟨b, off + (l.length - 1) * 3 + 2, none⟩) (lt_of_cell k3')).trans k3'⟩)
                (first | (go_at_call 35; refine (hcA.out _ (by exact htk.mono ((Below.refl _ _).drew))).mono ?_; rintro e w7 ⟨rfl, hb7⟩) | (go_at_call 29; refine (hcB.out _).mono ?_; rintro e w8 ⟨rfl, rfl⟩))
              have hbd := below_undrew hb7
              have hB7 := hB6.trans (hbd.mono hB6.size)
              have hm7 := hm6.mono hbd
              clear x1 x2 k1' k2' k3' c0 hb7 hbd htk
              go_wp2
              go_ret
              exact ⟨rfl, hB7⟩
          · rw [if_neg (by omega)] at hSF
            rw [hSF] at hS
            clear hSF
            replace hS := Lib.hid hS
            by_cases hk : l.length = 0
            · have ha0 : arrivalF l = 0 := by unfold arrivalF lastK; rw [if_pos hk]
              rw [ha0] at hA
              have hk2 : (l.length : Int) ≤ 0 := by omega
              clear ha0
              replace hk := Lib.hid hk; replace hA := Lib.hid hA
              go_enter Try.func8, Try.ntmps8
              go_wp2_with fail
              refine (known_any _).mono ?_
              rintro e w1 ⟨rfl, hb1⟩
              have bP1 := bP.grown hb1
              have hB1 := hB.trans (hb1.mono hB.size)
              have hv1 := hvw.mono hb1
              have hm1 := hmw.mono hb1
              clear bP hB hvw hmw hb1
              have c0 := bP1.cell 0 rfl
              go_wp2_with fail
              refine (hC1.out _ hv1).mono ?_
              rintro e w2 ⟨rfl, hb2⟩
              have bP2 := bP1.grown hb2
              have hB2 := hB1.trans (hb2.mono hB1.size)
              have hv2 := hv1.mono hb2
              have hm2 := hm1.mono hb2
              clear bP1 hB1 hv1 hm1 hb2 c0
              have c0 := bP2.cell 0 rfl
              go_wp2_with fail
              refine (hC3.out _ hv2 hm2).mono ?_
              rintro e w3 ⟨rfl, hb3⟩
              have bP3 := bP2.grown hb3
              have hB3 := hB2.trans (hb3.mono hB2.size)
              have hv3 := hv2.mono hb3
              have hm3 := hm2.mono hb3
              clear bP2 hB2 hv2 hm2 hb3 c0
              have c0 := bP3.cell 0 rfl
              go_wp2_with fail
              refine (hS.out _ hv3 hm3).mono ?_
              rintro e w4 ⟨rfl, hb4⟩
              have bP4 := bP3.grown hb4
              have hB4 := hB3.trans (hb4.mono hB3.size)
              have hv4 := hv3.mono hb4
              have hm4 := hm3.mono hb4
              clear bP3 hB3 hv3 hm3 hb4 c0
              have c0 := bP4.cell 0 rfl
              go_wp2_with fail
              refine (hA.out _ hv4 hm4).mono ?_
              rintro e w5 ⟨rfl, hb5⟩
              have bP5 := bP4.grown hb5
              have hB5 := hB4.trans (hb5.mono hB4.size)
              have hv5 := hv4.mono hb5
              have hm5 := hm4.mono hb5
              clear bP4 hB4 hv4 hm4 hb5 c0
              have c0 := bP5.cell 0 rfl
              go_wp2_with fail
              refine (hC2.out _ hv5 hm5).mono ?_
              rintro e w6 ⟨rfl, hb6⟩
              have bP6 := bP5.grown hb6
              have hB6 := hB5.trans (hb6.mono hB5.size)
              have hv6 := hv5.mono hb6
              have hm6 := hm5.mono hb6
              clear bP5 hB5 hv5 hm5 hb6 c0
              have c0 := bP6.cell 0 rfl
              have hcl := Lib.hid (hst.out _ hm6 ht ht2)
              go_wp2_with (go_at_call 35; refine hcl.out.mono ?_; rintro e w9 ⟨rfl, hb9⟩)
              go_ret
              exact ⟨rfl, hB6.trans (hb9.mono hB6.size)⟩
            · have hk1 : l.length - 1 < l.length := by omega
              have hcap2 := hmw.cap.resolve_left (fun e => hk (by rw [e]; rfl))
              have hr := hok.r _ hk1
              have hsb := stgAt_bd hok _ hk1
              have hN := hok.n1
              have hs2 := stage_take hok hk1
              have hok2 := hok.take (l.length - 1) (by omega)
              have ha0 : arrivalF l = arrAt l (l.length - 1) := by unfold arrivalF lastK; rw [if_neg hk]
              unfold arrAt at ha0
              unfold MvR at hr
              have g1 : (1 : Int) ≤ (l.length : Int) := by omega
              have g2 : (l.length : Int) - 1 ≤ (cap2 : Int) := by omega
              have g3 : ((l.length : Int) - 1).toNat = l.length - 1 := by omega
              have g4 : (l.length : Int) - 1 < (l.length : Int) := by omega
              replace hk := Lib.hid hk
              generalize hmk : mv l (l.length - 1) = mk at *
              generalize stgAt l (l.length - 1) = ST at hsb hs2 ha0
              obtain ⟨t, s, p⟩ := mk
              simp only at hr hs2 ha0
              have hm1' := @absI_bd (s - ST)
              obtain ⟨m, hm'⟩ : ∃ m, absI (s - ST) = m := ⟨_, rfl⟩
              rw [hm'] at ha0 hm1'
              have hm0 : 0 ≤ m ∧ m ≤ 64 := by omega
              have hmp : 0 ≤ p * m ∧ p * m ≤ 640000 := by
                have a1 : p * m ≤ p * 64 := Int.mul_le_mul_of_nonneg_left hm0.2 (by omega)
                have a2 : 0 ≤ p * m := Int.mul_nonneg (by omega) hm0.1
                omega
              rw [Int.mul_comm m p] at ha0
              obtain ⟨D, hD⟩ : ∃ D, t + p * m = D := ⟨_, rfl⟩
              rw [hD] at ha0
              rw [ha0] at hA
              have hDD := (beq_self_int D).2
              have hcB := fun W => distance_any s ST W (by omega) (by omega) (by omega) (by omega)
              rw [hm'] at hcB
              have x1 : IntKind.i64.wrap (p * m) = p * m := IntWalk.i64_in _ (by omega)
              have x2 : IntKind.i64.wrap (t + p * m) = D := by rw [hD]; exact IntWalk.i64_in _ (by omega)
              have hcA := fun W h => stage_any (.slice a2 (l.length - 1) cap2) ls.length (l.take (l.length - 1)) t W h hok2 (by omega) (by omega)
              rw [hs2] at hcA
              replace hA := Lib.hid hA; replace hcA := Lib.hid hcA; replace hcB := Lib.hid hcB; replace x1 := Lib.hid x1; replace x2 := Lib.hid x2; replace hmk := Lib.hid hmk
              clear hs2 ha0 hm' hm1' hD hok2
              go_enter Try.func8, Try.ntmps8
              go_wp2_with fail
              refine (known_any _).mono ?_
              rintro e w1 ⟨rfl, hb1⟩
              have bP1 := bP.grown hb1
              have hB1 := hB.trans (hb1.mono hB.size)
              have hv1 := hvw.mono hb1
              have hm1 := hmw.mono hb1
              clear bP hB hvw hmw hb1
              have c0 := bP1.cell 0 rfl
              go_wp2_with fail
              refine (hC1.out _ hv1).mono ?_
              rintro e w2 ⟨rfl, hb2⟩
              have bP2 := bP1.grown hb2
              have hB2 := hB1.trans (hb2.mono hB1.size)
              have hv2 := hv1.mono hb2
              have hm2 := hm1.mono hb2
              clear bP1 hB1 hv1 hm1 hb2 c0
              have c0 := bP2.cell 0 rfl
              go_wp2_with fail
              refine (hC3.out _ hv2 hm2).mono ?_
              rintro e w3 ⟨rfl, hb3⟩
              have bP3 := bP2.grown hb3
              have hB3 := hB2.trans (hb3.mono hB2.size)
              have hv3 := hv2.mono hb3
              have hm3 := hm2.mono hb3
              clear bP2 hB2 hv2 hm2 hb3 c0
              have c0 := bP3.cell 0 rfl
              go_wp2_with fail
              refine (hS.out _ hv3 hm3).mono ?_
              rintro e w4 ⟨rfl, hb4⟩
              have bP4 := bP3.grown hb4
              have hB4 := hB3.trans (hb4.mono hB3.size)
              have hv4 := hv3.mono hb4
              have hm4 := hm3.mono hb4
              clear bP3 hB3 hv3 hm3 hb4 c0
              have c0 := bP4.cell 0 rfl
              go_wp2_with fail
              refine (hA.out _ hv4 hm4).mono ?_
              rintro e w5 ⟨rfl, hb5⟩
              have bP5 := bP4.grown hb5
              have hB5 := hB4.trans (hb5.mono hB4.size)
              have hv5 := hv4.mono hb5
              have hm5 := hm4.mono hb5
              clear bP4 hB4 hv4 hm4 hb5 c0
              have c0 := bP5.cell 0 rfl
              go_wp2_with fail
              refine (hC2.out _ hv5 hm5).mono ?_
              rintro e w6 ⟨rfl, hb6⟩
              have bP6 := bP5.grown hb6
              have hB6 := hB5.trans (hb6.mono hB5.size)
              have hv6 := hv5.mono hb6
              have hm6 := hm5.mono hb6
              clear bP5 hB5 hv5 hm5 hb6 c0
              have c0 := bP6.cell 0 rfl
              obtain ⟨b, off, cap', he, hc⟩ := hm6.at hk1
              cases he
              have htk := hm6.take _ hk1
              obtain ⟨k1', k2', k3'⟩ := hc _ hk1
              rw [hmk.out] at k1' k2' k3'
              simp only at k1' k2' k3'
              clear hc
              go_wp2_with fail
              replace x1 := x1.out; replace x2 := x2.out
              go_region_held3 (fun w' => w'.cell? ⟨b, off + (l.length - 1) * 3, none⟩ = some (.int .i64 t) ∧ w'.cell? ⟨b, off + (l.length - 1) * 3 + 1, none⟩ = some (.int .i64 s) ∧ w'.cell? ⟨b, off + (l.length - 1) * 3 + 2, none⟩ = some (.int .i64 p))
                (first | exact ⟨k1', k2', k3'⟩ | exact ⟨(hb7.cell (p := ⟨b, off + (l.length - 1) * 3, none⟩) (lt_of_cell k1')).trans k1', (hb7.cell (p := ⟨b, off + (l.length - 1) * 3 + 1, none⟩) (lt_of_cell k2')).trans k2', (hb7.cell (p := ⟨b, off + (l.length - 1) * 3 + 2, none⟩) (lt_of_cell k3')).trans k3'⟩)
                (first | (go_at_call 35; refine (hcA.out _ (by exact htk.mono ((Below.refl _ _).drew))).mono ?_; rintro e w7 ⟨rfl, hb7⟩) | (go_at_call 29; refine (hcB.out _).mono ?_; rintro e w8 ⟨rfl, rfl⟩))
              have hbd := below_undrew hb7
              have hB7 := hB6.trans (hbd.mono hB6.size)
              have hm7 := hm6.mono hbd
              clear x1 x2 k1' k2' k3' c0 hb7 hbd htk
              have hcl := Lib.hid (hst.out _ hm7 ht ht2)
              go_wp2_with (go_at_call 35; refine hcl.out.mono ?_; rintro e w9 ⟨rfl, hb9⟩)
              go_ret
              exact ⟨rfl, hB7.trans (hb9.mono hB7.size)⟩
        · rw [if_pos h0] at hSF hAF
          rw [hSF] at hS
          rw [hAF] at hA
          obtain ⟨g1, g2⟩ := neq_of h0
          replace hS := Lib.hid hS; replace hA := Lib.hid hA
          clear hSF hAF h0 hq hd hq1
          go_enter Try.func8, Try.ntmps8
          go_wp2_with fail
          refine (known_any _).mono ?_
          rintro e w1 ⟨rfl, hb1⟩
          have bP1 := bP.grown hb1
          have hB1 := hB.trans (hb1.mono hB.size)
          have hv1 := hvw.mono hb1
          have hm1 := hmw.mono hb1
          clear bP hB hvw hmw hb1
          have c0 := bP1.cell 0 rfl
          go_wp2_with fail
          refine (hC1.out _ hv1).mono ?_
          rintro e w2 ⟨rfl, hb2⟩
          have bP2 := bP1.grown hb2
          have hB2 := hB1.trans (hb2.mono hB1.size)
          have hv2 := hv1.mono hb2
          have hm2 := hm1.mono hb2
          clear bP1 hB1 hv1 hm1 hb2 c0
          have c0 := bP2.cell 0 rfl
          go_wp2_with fail
          refine (hC3.out _ hv2 hm2).mono ?_
          rintro e w3 ⟨rfl, hb3⟩
          have bP3 := bP2.grown hb3
          have hB3 := hB2.trans (hb3.mono hB2.size)
          have hv3 := hv2.mono hb3
          have hm3 := hm2.mono hb3
          clear bP2 hB2 hv2 hm2 hb3 c0
          have c0 := bP3.cell 0 rfl
          go_wp2_with fail
          refine (hS.out _ hv3 hm3).mono ?_
          rintro e w4 ⟨rfl, hb4⟩
          have bP4 := bP3.grown hb4
          have hB4 := hB3.trans (hb4.mono hB3.size)
          have hv4 := hv3.mono hb4
          have hm4 := hm3.mono hb4
          clear bP3 hB3 hv3 hm3 hb4 c0
          have c0 := bP4.cell 0 rfl
          go_wp2_with fail
          refine (hA.out _ hv4 hm4).mono ?_
          rintro e w5 ⟨rfl, hb5⟩
          have bP5 := bP4.grown hb5
          have hB5 := hB4.trans (hb5.mono hB4.size)
          have hv5 := hv4.mono hb5
          have hm5 := hm4.mono hb5
          clear bP4 hB4 hv4 hm4 hb5 c0
          have c0 := bP5.cell 0 rfl
          go_wp2_with fail
          refine (hC2.out _ hv5 hm5).mono ?_
          rintro e w6 ⟨rfl, hb6⟩
          have bP6 := bP5.grown hb6
          have hB6 := hB5.trans (hb6.mono hB5.size)
          have hv6 := hv5.mono hb6
          have hm6 := hm5.mono hb6
          clear bP5 hB5 hv5 hm5 hb6 c0
          have c0 := bP6.cell 0 rfl
          go_wp2
          go_ret
          exact ⟨rfl, hB6⟩
      · rw [if_pos hd0] at hq1
        subst hq1
        rw [if_pos hd0] at hSF hAF
        rw [hSF] at hS
        rw [hAF] at hA
        obtain ⟨g1, g2⟩ := neq_of hd0
        replace hS := Lib.hid hS; replace hA := Lib.hid hA
        clear hSF hAF hd0 hq hd
        go_enter Try.func8, Try.ntmps8
        go_wp2_with fail
        refine (known_any _).mono ?_
        rintro e w1 ⟨rfl, hb1⟩
        have bP1 := bP.grown hb1
        have hB1 := hB.trans (hb1.mono hB.size)
        have hv1 := hvw.mono hb1
        have hm1 := hmw.mono hb1
        clear bP hB hvw hmw hb1
        have c0 := bP1.cell 0 rfl
        go_wp2_with fail
        refine (hC1.out _ hv1).mono ?_
        rintro e w2 ⟨rfl, hb2⟩
        have bP2 := bP1.grown hb2
        have hB2 := hB1.trans (hb2.mono hB1.size)
        have hv2 := hv1.mono hb2
        have hm2 := hm1.mono hb2
        clear bP1 hB1 hv1 hm1 hb2 c0
        have c0 := bP2.cell 0 rfl
        go_wp2_with fail
        refine (hS.out _ hv2 hm2).mono ?_
        rintro e w3 ⟨rfl, hb3⟩
        have bP3 := bP2.grown hb3
        have hB3 := hB2.trans (hb3.mono hB2.size)
        have hv3 := hv2.mono hb3
        have hm3 := hm2.mono hb3
        clear bP2 hB2 hv2 hm2 hb3 c0
        have c0 := bP3.cell 0 rfl
        go_wp2_with fail
        refine (hA.out _ hv3 hm3).mono ?_
        rintro e w4 ⟨rfl, hb4⟩
        have bP4 := bP3.grown hb4
        have hB4 := hB3.trans (hb4.mono hB3.size)
        have hv4 := hv3.mono hb4
        have hm4 := hm3.mono hb4
        clear bP3 hB3 hv3 hm3 hb4 c0
        have c0 := bP4.cell 0 rfl
        go_wp2_with fail
        refine (hC2.out _ hv4 hm4).mono ?_
        rintro e w5 ⟨rfl, hb5⟩
        have bP5 := bP4.grown hb5
        have hB5 := hB4.trans (hb5.mono hB4.size)
        have hv5 := hv4.mono hb5
        have hm5 := hm4.mono hb5
        clear bP4 hB4 hv4 hm4 hb5 c0
        have c0 := bP5.cell 0 rfl
        go_wp2
        go_ret
        exact ⟨rfl, hB5⟩
end Go.Proofs.Ytbfldhmpgealpaa
