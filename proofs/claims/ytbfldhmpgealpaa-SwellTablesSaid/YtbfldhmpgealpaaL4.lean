/- The walk of SwellTables. Conditions: lists of at most 2^63 elements. -/
import Derived.Test.YtbfldhmpgealpaaW12
import Derived.Test.YtbfldhmpgealpaaW17
import Derived.Test.YtbfldhmpgealpaaL3
namespace Go.Proofs.Ytbfldhmpgealpaa
open Go.RowKit

set_option maxRecDepth 100000 in
set_option maxHeartbeats 4000000 in
theorem law4_any (v u x y : Value) (c o : Int) (T : Tab) (rs l : List Int) (w : World) (hv : SlSl w v T.s) (hu : SlSl w u T.b) (hTs : T.s.length ≤ 9223372036854775807 ∧ ∀ k, (nths T.s k).length ≤ 9223372036854775807)
    (hTb : T.b.length ≤ 9223372036854775807 ∧ ∀ k, (nths T.b k).length ≤ 9223372036854775807) (hx : NumSl .u64 w x rs) (hrs : rs.length ≤ 9223372036854775807) (hy : NumSl .i64 w y l) (hl : l.length ≤ 9223372036854775807) :
    Calls Try.prog 4 #[tabV v u, regV x c o, y] w fun e w' => e = .returned (.bool true) ∧ Below w.heap.size w w' := by
  have hB := ((Below.refl w.heap.size w).alloc (Nat.le_refl _) (.cells #[v, u] 35)).alloc (by simp) (.cells #[x, .int .u64 c, .int .u64 o] 39)
  have bP := (BoxC.new w 35 #[v, u]).alloc (.cells #[x, .int .u64 c, .int .u64 o] 39)
  have bR := BoxC.new (w.alloc (.cells #[v, u] 35)) 39 #[x, .int .u64 c, .int .u64 o]
  simp only [World.size_alloc] at bR
  have hvw := hv.mono hB
  have huw := hu.mono hB
  have hxw := hx.mono hB
  have hyw := hy.mono hB
  obtain ⟨a, cap, rfl⟩ := hv.len
  obtain ⟨a2, cap2, rfl⟩ := hu.len
  obtain ⟨a3, cap3, rfl⟩ := hx.len
  obtain ⟨a4, cap4, rfl⟩ := hy.len
  clear hv hu hx hy
  have hsm := fun W h1 h2 => small_any (.slice a T.s.length cap) (.slice a2 T.b.length cap2) T W h1 h2 hTs.1 hTb.1 hTs.2 hTb.2
  replace hsm := Lib.hid hsm
  obtain ⟨hTs1, hTs2⟩ := hTs
  obtain ⟨hTb1, hTb2⟩ := hTb
  replace hTs2 := Lib.hid hTs2; replace hTb2 := Lib.hid hTb2
  go_enter Try.func4, Try.ntmps4
  go_wp2_with fail
  refine (known_any _).mono ?_
  rintro e w1 ⟨rfl, hb1⟩
  have bP1 := bP.grown hb1
  have bR1 := bR.grown hb1
  have hB1 := hB.trans (hb1.mono hB.size)
  have hv1 := hvw.mono hb1
  have hu1 := huw.mono hb1
  have hx1 := hxw.mono hb1
  have hy1 := hyw.mono hb1
  clear bP bR hB hvw huw hxw hyw hb1
  have c0 := bP1.cell 0 rfl
  have c1 := bP1.cell 1 rfl
  have r0 := bR1.cell 0 rfl
  have r1 := bR1.cell 1 rfl
  have r2 := bR1.cell 2 rfl
  go_wp2_with fail
  refine (hsm.out _ hv1 hu1).mono ?_
  rintro e w2 ⟨sm, hsm2, rfl, hb2⟩
  have bP2 := bP1.grown hb2
  have bR2 := bR1.grown hb2
  have hB2 := hB1.trans (hb2.mono hB1.size)
  have hv2 := hv1.mono hb2
  have hu2 := hu1.mono hb2
  have hx2 := hx1.mono hb2
  have hy2 := hy1.mono hb2
  clear bP1 bR1 hB1 hv1 hu1 hx1 hy1 hb2 c0 c1 r0 r1 r2
  have c0 := bP2.cell 0 rfl
  have c1 := bP2.cell 1 rfl
  have r0 := bR2.cell 0 rfl
  have r1 := bR2.cell 1 rfl
  have r2 := bR2.cell 2 rfl
  cases sm
  · go_wp2_with fail
    refine (known_any _).mono ?_
    rintro e w3 ⟨rfl, hb3⟩
    have bP3 := bP2.grown hb3
    have bR3 := bR2.grown hb3
    have hB3 := hB2.trans (hb3.mono hB2.size)
    have hv3 := hv2.mono hb3
    have hu3 := hu2.mono hb3
    have hx3 := hx2.mono hb3
    have hy3 := hy2.mono hb3
    clear bP2 bR2 hB2 hv2 hu2 hx2 hy2 hb3 c0 c1 r0 r1 r2
    have c0 := bP3.cell 0 rfl
    have c1 := bP3.cell 1 rfl
    have r0 := bR3.cell 0 rfl
    have r1 := bR3.cell 1 rfl
    have r2 := bR3.cell 2 rfl
    go_wp2
    go_ret
    exact ⟨rfl, hB3⟩
  · have hS : Small T := hsm2.1 rfl
    have hT := hS.fit
    clear hsm2 hsm
    by_cases h10 : 10 < rs.length
    · go_wp2_with fail
      refine (known_any _).mono ?_
      rintro e w3 ⟨rfl, hb3⟩
      have bP3 := bP2.grown hb3
      have bR3 := bR2.grown hb3
      have hB3 := hB2.trans (hb3.mono hB2.size)
      have hv3 := hv2.mono hb3
      have hu3 := hu2.mono hb3
      have hx3 := hx2.mono hb3
      have hy3 := hy2.mono hb3
      clear bP2 bR2 hB2 hv2 hu2 hx2 hy2 hb3 c0 c1 r0 r1 r2
      have c0 := bP3.cell 0 rfl
      have c1 := bP3.cell 1 rfl
      have r0 := bR3.cell 0 rfl
      have r1 := bR3.cell 1 rfl
      have r2 := bR3.cell 2 rfl
      go_wp2
      go_ret
      exact ⟨rfl, hB3⟩
    · by_cases h11 : 10 < l.length
      · go_wp2_with fail
        refine (known_any _).mono ?_
        rintro e w3 ⟨rfl, hb3⟩
        have bP3 := bP2.grown hb3
        have bR3 := bR2.grown hb3
        have hB3 := hB2.trans (hb3.mono hB2.size)
        have hv3 := hv2.mono hb3
        have hu3 := hu2.mono hb3
        have hx3 := hx2.mono hb3
        have hy3 := hy2.mono hb3
        clear bP2 bR2 hB2 hv2 hu2 hx2 hy2 hb3 c0 c1 r0 r1 r2
        have c0 := bP3.cell 0 rfl
        have c1 := bP3.cell 1 rfl
        have r0 := bR3.cell 0 rfl
        have r1 := bR3.cell 1 rfl
        have r2 := bR3.cell 2 rfl
        go_wp2
        go_ret
        exact ⟨rfl, hB3⟩
      · have hK1 := fun W h1 h2 => table_any (.slice a T.s.length cap) (.slice a2 T.b.length cap2) T W h1 h2 hT
        have hK2 := fun W h1 h2 => CheckTable_any (.slice a T.s.length cap) (.slice a2 T.b.length cap2) T W h1 h2 hT
        have hL := fun W h1 h2 h3 h4 => Loudness_any (.slice a T.s.length cap) (.slice a2 T.b.length cap2) (.slice a3 rs.length cap3) (.slice a4 l.length cap4) c o T rs l W h1 h2 hT h3 (by omega) h4 (by omega)
        obtain ⟨d, hd⟩ : ∃ d, tabF T = d := ⟨_, rfl⟩
        have hLF : LoudF T rs l = if d ≠ 0 then (0, d) else if fitF T rs ≠ 0 then (0, fitF T rs) else if stgF T l ≠ 0 then (0, stgF T l) else (loudF T rs (nth l) T.s.length, 0) := by unfold LoudF; rw [hd]
        rw [hd] at hK1 hK2
        replace hK1 := Lib.hid hK1; replace hK2 := Lib.hid hK2
        have hdd := beq_self_int d
        obtain ⟨hdd1, hdd2⟩ := hdd
        by_cases h0 : d = 0
        · subst h0
          have hok := tabOk_of hd
          rw [if_neg (by simp)] at hLF
          clear hd hdd1 hdd2
          obtain ⟨d2, hd2⟩ : ∃ d, fitF T rs = d := ⟨_, rfl⟩
          have hD := fun W h1 h2 h3 => drawn_any (.slice a T.s.length cap) (.slice a2 T.b.length cap2) (.slice a3 rs.length cap3) c o T rs W h1 h2 hT h3 (by omega) hok.len
          rw [hd2] at hLF hD
          replace hD := Lib.hid hD
          by_cases h2 : d2 = 0
          · subst h2
            rw [if_neg (by simp)] at hLF
            have hrs2 : rs.length = T.s.length := by
              unfold fitF at hd2
              split at hd2
              · cases hd2
              · rename_i h; simpa using h
            obtain ⟨d3, hd3⟩ : ∃ d, stgF T l = d := ⟨_, rfl⟩
            have hG := fun W h1 h2 h3 => lawStages_any (.slice a T.s.length cap) (.slice a2 T.b.length cap2) (.slice a4 l.length cap4) T l W h1 h2 hT h3 (by omega) hok.eq
            rw [hd3] at hLF hG
            replace hG := Lib.hid hG
            by_cases h3 : d3 = 0
            · subst h3
              rw [if_neg (by simp)] at hLF
              obtain ⟨hll, hso⟩ := stOk_of hd3
              have hst : loudF T rs (lawSt T l) T.s.length = loudF T rs (nth l) T.s.length ∧ StOk T (lawSt T l) := by
                by_cases hl0 : l.length = 0
                · rw [show T.s.length = 0 by omega]
                  exact ⟨rfl, fun k hk => by omega⟩
                · have e : lawSt T l = nth l := funext fun k => by unfold lawSt; rw [if_neg hl0]
                  rw [e]
                  exact ⟨rfl, hso⟩
              have hM := fun W h1 h2 h3 h4 => lawLoudness_any (.slice a T.s.length cap) (.slice a2 T.b.length cap2) (.slice a3 rs.length cap3) (.slice a4 l.length cap4) c o T rs l W h1 h2 hok h3 hrs2 h4 (.inr hll) hst.2
              rw [hst.1] at hM
              rw [hLF] at hL
              generalize loudF T rs (nth l) T.s.length = X at hM hL
              have hXX := (beq_self_int X).1
              replace hM := Lib.hid hM; replace hL := Lib.hid hL
              clear hst hLF hd3 hll hso hd2 hrs2
              go_wp2_with fail
              refine (hK1.out _ hv2 hu2).mono ?_
              rintro e w3 ⟨rfl, hb3⟩
              have bP3 := bP2.grown hb3
              have bR3 := bR2.grown hb3
              have hB3 := hB2.trans (hb3.mono hB2.size)
              have hv3 := hv2.mono hb3
              have hu3 := hu2.mono hb3
              have hx3 := hx2.mono hb3
              have hy3 := hy2.mono hb3
              clear bP2 bR2 hB2 hv2 hu2 hx2 hy2 hb3 c0 c1 r0 r1 r2
              have c0 := bP3.cell 0 rfl
              have c1 := bP3.cell 1 rfl
              have r0 := bR3.cell 0 rfl
              have r1 := bR3.cell 1 rfl
              have r2 := bR3.cell 2 rfl
              go_wp2_with fail
              refine (hK2.out _ hv3 hu3).mono ?_
              rintro e w4 ⟨rfl, hb4⟩
              have bP4 := bP3.grown hb4
              have bR4 := bR3.grown hb4
              have hB4 := hB3.trans (hb4.mono hB3.size)
              have hv4 := hv3.mono hb4
              have hu4 := hu3.mono hb4
              have hx4 := hx3.mono hb4
              have hy4 := hy3.mono hb4
              clear bP3 bR3 hB3 hv3 hu3 hx3 hy3 hb4 c0 c1 r0 r1 r2
              have c0 := bP4.cell 0 rfl
              have c1 := bP4.cell 1 rfl
              have r0 := bR4.cell 0 rfl
              have r1 := bR4.cell 1 rfl
              have r2 := bR4.cell 2 rfl
              go_wp2_with fail
              refine (hD.out _ hv4 hu4 hx4).mono ?_
              rintro e w5 ⟨rfl, hb5⟩
              have bP5 := bP4.grown hb5
              have bR5 := bR4.grown hb5
              have hB5 := hB4.trans (hb5.mono hB4.size)
              have hv5 := hv4.mono hb5
              have hu5 := hu4.mono hb5
              have hx5 := hx4.mono hb5
              have hy5 := hy4.mono hb5
              clear bP4 bR4 hB4 hv4 hu4 hx4 hy4 hb5 c0 c1 r0 r1 r2
              have c0 := bP5.cell 0 rfl
              have c1 := bP5.cell 1 rfl
              have r0 := bR5.cell 0 rfl
              have r1 := bR5.cell 1 rfl
              have r2 := bR5.cell 2 rfl
              go_wp2_with fail
              refine (hG.out _ hv5 hu5 hy5).mono ?_
              rintro e w6 ⟨rfl, hb6⟩
              have bP6 := bP5.grown hb6
              have bR6 := bR5.grown hb6
              have hB6 := hB5.trans (hb6.mono hB5.size)
              have hv6 := hv5.mono hb6
              have hu6 := hu5.mono hb6
              have hx6 := hx5.mono hb6
              have hy6 := hy5.mono hb6
              clear bP5 bR5 hB5 hv5 hu5 hx5 hy5 hb6 c0 c1 r0 r1 r2
              have c0 := bP6.cell 0 rfl
              have c1 := bP6.cell 1 rfl
              have r0 := bR6.cell 0 rfl
              have r1 := bR6.cell 1 rfl
              have r2 := bR6.cell 2 rfl
              go_wp2_with fail
              refine (hL.out _ hv6 hu6 hx6 hy6).mono ?_
              rintro e w7 ⟨rfl, hb7⟩
              have bP7 := bP6.grown hb7
              have bR7 := bR6.grown hb7
              have hB7 := hB6.trans (hb7.mono hB6.size)
              have hv7 := hv6.mono hb7
              have hu7 := hu6.mono hb7
              have hx7 := hx6.mono hb7
              have hy7 := hy6.mono hb7
              clear bP6 bR6 hB6 hv6 hu6 hx6 hy6 hb7 c0 c1 r0 r1 r2
              have c0 := bP7.cell 0 rfl
              have c1 := bP7.cell 1 rfl
              have r0 := bR7.cell 0 rfl
              have r1 := bR7.cell 1 rfl
              have r2 := bR7.cell 2 rfl
              go_wp2_with fail
              refine (hM.out _ hv7 hu7 hx7 hy7).mono ?_
              rintro e w8 ⟨rfl, hb8⟩
              have bP8 := bP7.grown hb8
              have bR8 := bR7.grown hb8
              have hB8 := hB7.trans (hb8.mono hB7.size)
              have hv8 := hv7.mono hb8
              have hu8 := hu7.mono hb8
              have hx8 := hx7.mono hb8
              have hy8 := hy7.mono hb8
              clear bP7 bR7 hB7 hv7 hu7 hx7 hy7 hb8 c0 c1 r0 r1 r2
              have c0 := bP8.cell 0 rfl
              have c1 := bP8.cell 1 rfl
              have r0 := bR8.cell 0 rfl
              have r1 := bR8.cell 1 rfl
              have r2 := bR8.cell 2 rfl
              go_wp2
              go_ret
              exact ⟨rfl, hB8⟩
            · obtain ⟨g1, g2⟩ := neq_of h3
              have hqq := beq_self_int d3
              obtain ⟨hqq1, hqq2⟩ := hqq
              rw [if_pos h3] at hLF
              rw [hLF] at hL
              replace hL := Lib.hid hL
              clear hLF hd3 hd2 hrs2 h3
              go_wp2_with fail
              refine (hK1.out _ hv2 hu2).mono ?_
              rintro e w3 ⟨rfl, hb3⟩
              have bP3 := bP2.grown hb3
              have bR3 := bR2.grown hb3
              have hB3 := hB2.trans (hb3.mono hB2.size)
              have hv3 := hv2.mono hb3
              have hu3 := hu2.mono hb3
              have hx3 := hx2.mono hb3
              have hy3 := hy2.mono hb3
              clear bP2 bR2 hB2 hv2 hu2 hx2 hy2 hb3 c0 c1 r0 r1 r2
              have c0 := bP3.cell 0 rfl
              have c1 := bP3.cell 1 rfl
              have r0 := bR3.cell 0 rfl
              have r1 := bR3.cell 1 rfl
              have r2 := bR3.cell 2 rfl
              go_wp2_with fail
              refine (hK2.out _ hv3 hu3).mono ?_
              rintro e w4 ⟨rfl, hb4⟩
              have bP4 := bP3.grown hb4
              have bR4 := bR3.grown hb4
              have hB4 := hB3.trans (hb4.mono hB3.size)
              have hv4 := hv3.mono hb4
              have hu4 := hu3.mono hb4
              have hx4 := hx3.mono hb4
              have hy4 := hy3.mono hb4
              clear bP3 bR3 hB3 hv3 hu3 hx3 hy3 hb4 c0 c1 r0 r1 r2
              have c0 := bP4.cell 0 rfl
              have c1 := bP4.cell 1 rfl
              have r0 := bR4.cell 0 rfl
              have r1 := bR4.cell 1 rfl
              have r2 := bR4.cell 2 rfl
              go_wp2_with fail
              refine (hD.out _ hv4 hu4 hx4).mono ?_
              rintro e w5 ⟨rfl, hb5⟩
              have bP5 := bP4.grown hb5
              have bR5 := bR4.grown hb5
              have hB5 := hB4.trans (hb5.mono hB4.size)
              have hv5 := hv4.mono hb5
              have hu5 := hu4.mono hb5
              have hx5 := hx4.mono hb5
              have hy5 := hy4.mono hb5
              clear bP4 bR4 hB4 hv4 hu4 hx4 hy4 hb5 c0 c1 r0 r1 r2
              have c0 := bP5.cell 0 rfl
              have c1 := bP5.cell 1 rfl
              have r0 := bR5.cell 0 rfl
              have r1 := bR5.cell 1 rfl
              have r2 := bR5.cell 2 rfl
              go_wp2_with fail
              refine (hG.out _ hv5 hu5 hy5).mono ?_
              rintro e w6 ⟨rfl, hb6⟩
              have bP6 := bP5.grown hb6
              have bR6 := bR5.grown hb6
              have hB6 := hB5.trans (hb6.mono hB5.size)
              have hv6 := hv5.mono hb6
              have hu6 := hu5.mono hb6
              have hx6 := hx5.mono hb6
              have hy6 := hy5.mono hb6
              clear bP5 bR5 hB5 hv5 hu5 hx5 hy5 hb6 c0 c1 r0 r1 r2
              have c0 := bP6.cell 0 rfl
              have c1 := bP6.cell 1 rfl
              have r0 := bR6.cell 0 rfl
              have r1 := bR6.cell 1 rfl
              have r2 := bR6.cell 2 rfl
              go_wp2_with fail
              refine (hL.out _ hv6 hu6 hx6 hy6).mono ?_
              rintro e w7 ⟨rfl, hb7⟩
              have bP7 := bP6.grown hb7
              have bR7 := bR6.grown hb7
              have hB7 := hB6.trans (hb7.mono hB6.size)
              have hv7 := hv6.mono hb7
              have hu7 := hu6.mono hb7
              have hx7 := hx6.mono hb7
              have hy7 := hy6.mono hb7
              clear bP6 bR6 hB6 hv6 hu6 hx6 hy6 hb7 c0 c1 r0 r1 r2
              have c0 := bP7.cell 0 rfl
              have c1 := bP7.cell 1 rfl
              have r0 := bR7.cell 0 rfl
              have r1 := bR7.cell 1 rfl
              have r2 := bR7.cell 2 rfl
              go_wp2
              go_ret
              exact ⟨rfl, hB7⟩
          · obtain ⟨g1, g2⟩ := neq_of h2
            have hqq := beq_self_int d2
            obtain ⟨hqq1, hqq2⟩ := hqq
            rw [if_pos h2] at hLF
            rw [hLF] at hL
            replace hL := Lib.hid hL
            clear hLF hd2 h2
            go_wp2_with fail
            refine (hK1.out _ hv2 hu2).mono ?_
            rintro e w3 ⟨rfl, hb3⟩
            have bP3 := bP2.grown hb3
            have bR3 := bR2.grown hb3
            have hB3 := hB2.trans (hb3.mono hB2.size)
            have hv3 := hv2.mono hb3
            have hu3 := hu2.mono hb3
            have hx3 := hx2.mono hb3
            have hy3 := hy2.mono hb3
            clear bP2 bR2 hB2 hv2 hu2 hx2 hy2 hb3 c0 c1 r0 r1 r2
            have c0 := bP3.cell 0 rfl
            have c1 := bP3.cell 1 rfl
            have r0 := bR3.cell 0 rfl
            have r1 := bR3.cell 1 rfl
            have r2 := bR3.cell 2 rfl
            go_wp2_with fail
            refine (hK2.out _ hv3 hu3).mono ?_
            rintro e w4 ⟨rfl, hb4⟩
            have bP4 := bP3.grown hb4
            have bR4 := bR3.grown hb4
            have hB4 := hB3.trans (hb4.mono hB3.size)
            have hv4 := hv3.mono hb4
            have hu4 := hu3.mono hb4
            have hx4 := hx3.mono hb4
            have hy4 := hy3.mono hb4
            clear bP3 bR3 hB3 hv3 hu3 hx3 hy3 hb4 c0 c1 r0 r1 r2
            have c0 := bP4.cell 0 rfl
            have c1 := bP4.cell 1 rfl
            have r0 := bR4.cell 0 rfl
            have r1 := bR4.cell 1 rfl
            have r2 := bR4.cell 2 rfl
            go_wp2_with fail
            refine (hD.out _ hv4 hu4 hx4).mono ?_
            rintro e w5 ⟨rfl, hb5⟩
            have bP5 := bP4.grown hb5
            have bR5 := bR4.grown hb5
            have hB5 := hB4.trans (hb5.mono hB4.size)
            have hv5 := hv4.mono hb5
            have hu5 := hu4.mono hb5
            have hx5 := hx4.mono hb5
            have hy5 := hy4.mono hb5
            clear bP4 bR4 hB4 hv4 hu4 hx4 hy4 hb5 c0 c1 r0 r1 r2
            have c0 := bP5.cell 0 rfl
            have c1 := bP5.cell 1 rfl
            have r0 := bR5.cell 0 rfl
            have r1 := bR5.cell 1 rfl
            have r2 := bR5.cell 2 rfl
            go_wp2_with fail
            refine (hL.out _ hv5 hu5 hx5 hy5).mono ?_
            rintro e w6 ⟨rfl, hb6⟩
            have bP6 := bP5.grown hb6
            have bR6 := bR5.grown hb6
            have hB6 := hB5.trans (hb6.mono hB5.size)
            have hv6 := hv5.mono hb6
            have hu6 := hu5.mono hb6
            have hx6 := hx5.mono hb6
            have hy6 := hy5.mono hb6
            clear bP5 bR5 hB5 hv5 hu5 hx5 hy5 hb6 c0 c1 r0 r1 r2
            have c0 := bP6.cell 0 rfl
            have c1 := bP6.cell 1 rfl
            have r0 := bR6.cell 0 rfl
            have r1 := bR6.cell 1 rfl
            have r2 := bR6.cell 2 rfl
            go_wp2
            go_ret
            exact ⟨rfl, hB6⟩
        · obtain ⟨g1, g2⟩ := neq_of h0
          rw [if_pos h0] at hLF
          rw [hLF] at hL
          replace hL := Lib.hid hL
          clear hLF hd h0
          go_wp2_with fail
          refine (hK1.out _ hv2 hu2).mono ?_
          rintro e w3 ⟨rfl, hb3⟩
          have bP3 := bP2.grown hb3
          have bR3 := bR2.grown hb3
          have hB3 := hB2.trans (hb3.mono hB2.size)
          have hv3 := hv2.mono hb3
          have hu3 := hu2.mono hb3
          have hx3 := hx2.mono hb3
          have hy3 := hy2.mono hb3
          clear bP2 bR2 hB2 hv2 hu2 hx2 hy2 hb3 c0 c1 r0 r1 r2
          have c0 := bP3.cell 0 rfl
          have c1 := bP3.cell 1 rfl
          have r0 := bR3.cell 0 rfl
          have r1 := bR3.cell 1 rfl
          have r2 := bR3.cell 2 rfl
          go_wp2_with fail
          refine (hK2.out _ hv3 hu3).mono ?_
          rintro e w4 ⟨rfl, hb4⟩
          have bP4 := bP3.grown hb4
          have bR4 := bR3.grown hb4
          have hB4 := hB3.trans (hb4.mono hB3.size)
          have hv4 := hv3.mono hb4
          have hu4 := hu3.mono hb4
          have hx4 := hx3.mono hb4
          have hy4 := hy3.mono hb4
          clear bP3 bR3 hB3 hv3 hu3 hx3 hy3 hb4 c0 c1 r0 r1 r2
          have c0 := bP4.cell 0 rfl
          have c1 := bP4.cell 1 rfl
          have r0 := bR4.cell 0 rfl
          have r1 := bR4.cell 1 rfl
          have r2 := bR4.cell 2 rfl
          go_wp2_with fail
          refine (hL.out _ hv4 hu4 hx4 hy4).mono ?_
          rintro e w5 ⟨rfl, hb5⟩
          have bP5 := bP4.grown hb5
          have bR5 := bR4.grown hb5
          have hB5 := hB4.trans (hb5.mono hB4.size)
          have hv5 := hv4.mono hb5
          have hu5 := hu4.mono hb5
          have hx5 := hx4.mono hb5
          have hy5 := hy4.mono hb5
          clear bP4 bR4 hB4 hv4 hu4 hx4 hy4 hb5 c0 c1 r0 r1 r2
          have c0 := bP5.cell 0 rfl
          have c1 := bP5.cell 1 rfl
          have r0 := bR5.cell 0 rfl
          have r1 := bR5.cell 1 rfl
          have r2 := bR5.cell 2 rfl
          go_wp2
          go_ret
          exact ⟨rfl, hB5⟩
end Go.Proofs.Ytbfldhmpgealpaa
