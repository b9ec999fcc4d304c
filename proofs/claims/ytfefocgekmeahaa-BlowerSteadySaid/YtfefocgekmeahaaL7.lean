/- The walk of BlowerSteady. Conditions: lists that fit. -/
import Derived.Test.YtfefocgekmeahaaW22
import Derived.Deep.RegionHeld3
namespace Go.Proofs.Ytfefocgekmeahaa
open Go.RowKit Go.Shelf

theorem btF_at {ns : List Nd} {dm : List Int} {sup : Int} (hp : PlOk ns) (hd : DmOk ns dm) {k : Nat} (h1 : ∀ j : Nat, j + 1 = k → (btF ns sup dm ((j : Int) + 1)).2 = false) (h2 : k < 1000 → (btF ns sup dm ((k : Int) + 1)).2 = true) {i : Nat} (hi : i ≤ 1000) : 1 ≤ i → (btF ns sup dm i).2 = decide (k < i) := by
  intro hi1
  by_cases hki : k < i
  · rw [decide_eq_true hki]
    exact btF_mono hp hd (k := (k : Int) + 1) (k' := (i : Int)) (by omega) (h2 (by omega))
  · rw [decide_eq_false hki]
    cases hb : (btF ns sup dm i).2
    · rfl
    · have := btF_mono hp hd (k := (i : Int)) (k' := ((k - 1 : Nat) : Int) + 1) (by omega) hb
      rw [h1 (k - 1) (by omega)] at this
      cases this

set_option maxRecDepth 100000 in
set_option maxHeartbeats 4000000 in
theorem law7_any (sup : Int) (v : Value) (ns : List Nd) (x : Value) (dm : List Int) (w : World) (hv : NdSl w v ns) (hx : NumSl .i64 w x dm) (hm : ns.length ≤ 9223372036854775807) (hm2 : dm.length ≤ 9223372036854775807) :
    Calls Try.prog 7 #[plV sup v, x] w fun e w' => e = .returned (.bool true) ∧ Below w.heap.size w w' := by
  have hB := (Below.refl w.heap.size w).alloc (Nat.le_refl _) (.cells #[.int .i64 sup, v] 24)
  have bP := BoxC.new w 24 #[.int .i64 sup, v]
  have hv1 := hv.mono hB
  have hx1 := hx.mono hB
  obtain ⟨av, cv, rfl⟩ := hv.len
  obtain ⟨ax, cx, rfl⟩ := hx.len
  clear hv hx
  by_cases hA : 32 < ns.length
  · have hA2 : (32 : Int) < (ns.length : Int) := by omega
    go_enter Try.func7, Try.ntmps7
    go_wp2_with fail
    refine (known_any _).mono ?_
    rintro e w1 ⟨rfl, hb1⟩
    have c1 := (bP.grown hb1).cell 1 rfl
    go_wp2_with fail
    refine (known_any _).mono ?_
    rintro e w2 ⟨rfl, hb2⟩
    clear c1
    go_wp2
    go_ret
    exact ⟨rfl, hB.trans ((hb1.trans (hb2.mono hb1.size)).mono hB.size)⟩
  have hA2 : ¬ (32 : Int) < (ns.length : Int) := by omega
  by_cases hD : 32 < dm.length
  · have hD2 : (32 : Int) < (dm.length : Int) := by omega
    go_enter Try.func7, Try.ntmps7
    go_wp2_with fail
    refine (known_any _).mono ?_
    rintro e w1 ⟨rfl, hb1⟩
    have c1 := (bP.grown hb1).cell 1 rfl
    go_wp2_with fail
    refine (known_any _).mono ?_
    rintro e w2 ⟨rfl, hb2⟩
    clear c1
    go_wp2
    go_ret
    exact ⟨rfl, hB.trans ((hb1.trans (hb2.mono hb1.size)).mono hB.size)⟩
  have hD2 : ¬ (32 : Int) < (dm.length : Int) := by omega
  have hck := fun W (hb : Below w.heap.size w W) (h : NdSl W (.slice av ns.length cv) ns) => lcheck_any sup _ ns W h hm
  obtain ⟨d, hd⟩ : ∃ d, ckF sup ns = d := ⟨_, rfl⟩
  rw [hd] at hck
  replace hck := Lib.hid hck
  by_cases h0 : d = 0
  · subst h0
    have hp := (plOk_of hd).2
    have hst := fun W (h : NdSl W (.slice av ns.length cv) ns) (h2 : NumSl .i64 W (.slice ax dm.length cx) dm) => Steady_any sup _ ns _ dm W h h2 hm (by omega)
    have hbn := fun W (h : NdSl W (.slice av ns.length cv) ns) (h2 : NumSl .i64 W (.slice ax dm.length cx) dm) => Bottleneck_any sup _ ns _ dm W h h2 hm (by omega)
    have hdd := fun W (h : NdSl W (.slice av ns.length cv) ns) (h2 : NumSl .i64 W (.slice ax dm.length cx) dm) => demanded_any sup _ ns _ dm W h h2 (by omega)
    have hsd : sdF sup ns dm = deF ns dm := by unfold sdF; rw [if_neg (by simpa using hd)]
    unfold SteadyPost at hst
    unfold BnPost at hbn
    rw [hsd] at hst hbn
    have hdok := dmOk_of (ns := ns) (d := dm)
    generalize deF ns dm = d at hst hbn hdd hdok
    replace hst := Lib.hid hst
    replace hbn := Lib.hid hbn
    replace hdd := Lib.hid hdd
    clear hsd hd
    go_enter Try.func7, Try.ntmps7
    go_wp2_with fail
    refine (known_any _).mono ?_
    rintro e w1 ⟨rfl, hb1⟩
    have bP1 := bP.grown hb1
    have hB1 := hB.trans (hb1.mono hB.size)
    have hv2 := hv1.mono hb1
    have hx2 := hx1.mono hb1
    have c0 := bP1.cell 0 rfl
    have c1 := bP1.cell 1 rfl
    have hck1 := Lib.hid (hck.out w1 hB1 hv2)
    clear hck hb1 bP hv1 hx1
    go_wp2_with fail
    refine hck1.out.mono ?_
    rintro e w2 ⟨rfl, hb2⟩
    replace bP1 := bP1.grown hb2
    replace hB1 := hB1.trans (hb2.mono hB1.size)
    replace hv2 := hv2.mono hb2
    replace hx2 := hx2.mono hb2
    replace c0 := bP1.cell 0 rfl
    replace c1 := bP1.cell 1 rfl
    have hst1 := Lib.hid (hst.out w2 hv2 hx2)
    clear hck1 hb2 hst
    go_wp2_with fail
    refine hst1.out.mono ?_
    rintro e w3 ⟨hb3, hs1, hs2⟩
    replace bP1 := bP1.grown hb3
    replace hB1 := hB1.trans (hb3.mono hB1.size)
    replace hv2 := hv2.mono hb3
    replace hx2 := hx2.mono hb3
    replace c0 := bP1.cell 0 rfl
    replace c1 := bP1.cell 1 rfl
    have hbn1 := Lib.hid (hbn.out w3 hv2 hx2)
    clear hst1 hb3 hbn
    by_cases h0 : d = 0
    · subst h0
      obtain ⟨k, hk, k1, k2, rfl⟩ := hs2 rfl
      have hdm := hdok rfl
      have hat := fun (i : Nat) (hi : i ≤ 1000) => btF_at hp hdm k1 k2 hi
      have hcr := fun (i : Nat) (hi : i ≤ 1000) W (h : NdSl W (.slice av ns.length cv) ns) (h2 : NumSl .i64 W (.slice ax dm.length cx) dm) => carried_any sup _ ns _ dm (i : Int) W h h2 hp hdm (by omega) (by omega)
      have hlm := fun (i : Nat) (hi : i ≤ 1000) W y (h : NdSl W (.slice av ns.length cv) ns) (h2 : NumSl .i64 W y (catL (cG ns dm (i : Int) (backT ns.length ns.length)))) => limit_any sup _ ns y (cG ns dm (i : Int) (backT ns.length ns.length)).1 (cG ns dm (i : Int) (backT ns.length ns.length)).2 W h h2 (cG_bd hp hdm (by omega) (by omega) _).1 (by omega)
      have hca := fun (i : Nat) (hi : i ≤ 1000) => cG_all hp hdm (k := (i : Int)) (by omega) (by omega) sup
      replace hat := Lib.hid hat
      replace hcr := Lib.hid hcr
      replace hlm := Lib.hid hlm
      replace hca := Lib.hid hca
      clear k1 k2 hs1 hs2 hdok
      go_wp2_with fail
      refine hbn1.out.mono ?_
      rintro e w4 ⟨hb4, -, hs2⟩
      obtain rfl := hs2 (by simp)
      replace bP1 := bP1.grown hb4
      replace hB1 := hB1.trans (hb4.mono hB1.size)
      replace hv2 := hv2.mono hb4
      replace hx2 := hx2.mono hb4
      replace c0 := bP1.cell 0 rfl
      replace c1 := bP1.cell 1 rfl
      have hdd1 := Lib.hid (hdd.out w4 hv2 hx2)
      clear hbn1 hb4 hs2 hdd
      go_wp2_with fail
      refine hdd1.out.mono ?_
      rintro e w5 ⟨rfl, hb5⟩
      replace bP1 := bP1.grown hb5
      replace hB1 := hB1.trans (hb5.mono hB1.size)
      replace hv2 := hv2.mono hb5
      replace hx2 := hx2.mono hb5
      clear hdd1 hb5 c0 c1
      go_wp2
      go_loopw [11, 12] (fun b q W => ∃ i : Nat, 1 ≤ i ∧ i ≤ 1001 ∧ q = .int .i64 i ∧ b = .int .i64 ((min (i - 1) k : Nat) : Int) ∧ Below w5.heap.size w5 W) (fun _ q _ => 1001 - (intOf q).toNat)
      case atStart => exact ⟨1, by omega, by omega, rfl, by simp, Below.refl _ _⟩
      case round =>
        obtain ⟨i, hi1, hi2, rfl, rfl, hY⟩ := hrel
        have hdr := (Below.refl wr.heap.size wr).drew
        have bX := (bP1.grown hY).grown hdr
        have hvX := (hv2.mono hY).mono hdr
        have hxX := (hx2.mono hY).mono hdr
        have q0 : wr.drew.cell? ⟨w.heap.size, 0, none⟩ = some (.int .i64 sup) := bX.cell 0 rfl
        have q1 : wr.drew.cell? ⟨w.heap.size, 1, none⟩ = some (.slice av ns.length cv) := bX.cell 1 rfl
        by_cases hlt : i ≤ 1000
        · have hii : (i : Int) ≤ 1000 := by omega
          have hcX := Lib.hid (hcr.out i hlt wr.drew hvX hxX)
          have hF := hat.out i hlt hi1
          have hca1 := hca.out i hlt
          generalize btF ns sup dm (i : Int) = F at hF hca1
          replace hca1 := Lib.hid hca1
          replace hF := Lib.hid hF
          go_wp2_with fail
          go_region_held3 (fun Y => Y.cell? ⟨w.heap.size, 0, none⟩ = some (.int .i64 sup) ∧ Y.cell? ⟨w.heap.size, 1, none⟩ = some (.slice av ns.length cv)) (first | exact ⟨q0, q1⟩ | exact ⟨p0, p1⟩ | exact ⟨r0, r1⟩)
            (first | (go_at_call 28; refine hcX.out.mono ?_; rintro e wp ⟨y, rfl, hy, hbp⟩; have bY := bX.grown hbp; have p0 : wp.cell? ⟨w.heap.size, 0, none⟩ = some (.int .i64 sup) := bY.cell 0 rfl; have p1 : wp.cell? ⟨w.heap.size, 1, none⟩ = some (.slice av ns.length cv) := bY.cell 1 rfl; have hlX := hlm.out i hlt wp y (hvX.mono hbp) hy; rw [hca1.out] at hlX; replace hlX := Lib.hid hlX)
                   | (go_at_call 27; refine hlX.out.mono ?_; rintro e wq ⟨rfl, hbq⟩; have bZ := bY.grown hbq; have r0 : wq.cell? ⟨w.heap.size, 0, none⟩ = some (.int .i64 sup) := bZ.cell 0 rfl; have r1 : wq.cell? ⟨w.heap.size, 1, none⟩ = some (.slice av ns.length cv) := bZ.cell 1 rfl))
          have hZ := hY.trans ((hdr.trans ((hbp.trans (hbq.mono hbp.size)).mono hdr.size)).mono hY.size)
          replace hF := hF.out
          clear q0 q1 p0 p1 r0 r1 hcX hca1
          by_cases hki : k < i
          · rw [decide_eq_true hki] at hF
            go_wp2
            go_roundw
            case rel => exact ⟨i + 1, by omega, by omega, by go_num, by congr 1; omega, hZ⟩
            case measure => simp [intOf]; omega
          · rw [decide_eq_false hki] at hF
            go_wp2
            go_roundw
            case rel => exact ⟨i + 1, by omega, by omega, by go_num, by congr 1; omega, hZ⟩
            case measure => simp [intOf]; omega
        · obtain rfl : i = 1001 := by omega
          have hcX := Lib.hid (hcr.out 1000 (by omega) wr.drew hvX hxX)
          have hF := hat.out 1000 (by omega) (by omega)
          have hca1 := hca.out 1000 (by omega)
          have hbk : ((min (1001 - 1) k : Nat) : Int) = (k : Int) := by omega
          rw [hbk]
          clear hbk
          rw [show (((1000 : Nat)) : Int) = 1000 from rfl] at hF hca1 hcX
          generalize btF ns sup dm 1000 = F at hF hca1 ⊢
          replace hca1 := Lib.hid hca1
          replace hF := Lib.hid hF
          go_wp2_with fail
          go_region_held3 (fun Y => Y.cell? ⟨w.heap.size, 0, none⟩ = some (.int .i64 sup) ∧ Y.cell? ⟨w.heap.size, 1, none⟩ = some (.slice av ns.length cv)) (first | exact ⟨q0, q1⟩ | exact ⟨p0, p1⟩ | exact ⟨r0, r1⟩)
            (first | (go_at_call 28; refine hcX.out.mono ?_; rintro e wp ⟨y, rfl, hy, hbp⟩; have bY := bX.grown hbp; have p0 : wp.cell? ⟨w.heap.size, 0, none⟩ = some (.int .i64 sup) := bY.cell 0 rfl; have p1 : wp.cell? ⟨w.heap.size, 1, none⟩ = some (.slice av ns.length cv) := bY.cell 1 rfl; have hlX := hlm.out 1000 (by omega) wp y (hvX.mono hbp) hy; rw [show (((1000 : Nat)) : Int) = 1000 from rfl, hca1.out] at hlX; replace hlX := Lib.hid hlX)
                   | (go_at_call 27; refine hlX.out.mono ?_; rintro e wq ⟨rfl, hbq⟩; have bZ := bY.grown hbq; have r0 : wq.cell? ⟨w.heap.size, 0, none⟩ = some (.int .i64 sup) := bZ.cell 0 rfl; have r1 : wq.cell? ⟨w.heap.size, 1, none⟩ = some (.slice av ns.length cv) := bZ.cell 1 rfl))
          have hZ := hY.trans ((hdr.trans ((hbp.trans (hbq.mono hbp.size)).mono hdr.size)).mono hY.size)
          replace hF := hF.out
          clear q0 q1 p0 p1 r0 r1 hcX hca1
          have hB9 := hB1.trans (hZ.mono hB1.size)
          by_cases hki : k < 1000
          · have hki2 : (k : Int) < 1000 := by omega
            rw [decide_eq_true hki] at hF
            go_wp2
            go_ret
            exact ⟨rfl, hB9⟩
          · have hki2 : ¬ (k : Int) < 1000 := by omega
            rw [decide_eq_false hki] at hF
            go_wp2
            go_ret
            exact ⟨rfl, hB9⟩
    · obtain ⟨g1, g2⟩ := neq_of h0
      obtain rfl := hs1 h0
      clear hs2 hdok
      go_wp2_with fail
      refine hbn1.out.mono ?_
      rintro e w4 ⟨hb4, hs1, -⟩
      obtain rfl := hs1 h0
      replace bP1 := bP1.grown hb4
      replace hB1 := hB1.trans (hb4.mono hB1.size)
      replace hv2 := hv2.mono hb4
      replace hx2 := hx2.mono hb4
      replace c0 := bP1.cell 0 rfl
      replace c1 := bP1.cell 1 rfl
      have hdd1 := Lib.hid (hdd.out w4 hv2 hx2)
      clear hbn1 hb4 hs1 hdd
      go_wp2_with fail
      refine hdd1.out.mono ?_
      rintro e w5 ⟨rfl, hb5⟩
      clear c0 c1 hdd1
      go_wp2
      go_ret
      exact ⟨rfl, hB1.trans (hb5.mono hB1.size)⟩
  · obtain ⟨g1, g2⟩ := neq_of h0
    go_enter Try.func7, Try.ntmps7
    go_wp2_with fail
    refine (known_any _).mono ?_
    rintro e w1 ⟨rfl, hb1⟩
    have bP1 := bP.grown hb1
    have hB1 := hB.trans (hb1.mono hB.size)
    have c0 := bP1.cell 0 rfl
    have c1 := bP1.cell 1 rfl
    have hck1 := Lib.hid (hck.out w1 hB1 (hv1.mono hb1))
    clear hck
    go_wp2_with fail
    refine hck1.out.mono ?_
    rintro e w2 ⟨rfl, hb2⟩
    clear c0 c1 hck1
    have hB2 := hB1.trans (hb2.mono hB1.size)
    go_wp2_with fail
    refine (known_any _).mono ?_
    rintro e w3 ⟨rfl, hb3⟩
    go_wp2
    go_ret
    exact ⟨rfl, hB2.trans (hb3.mono hB2.size)⟩
end Go.Proofs.Ytfefocgekmeahaa
