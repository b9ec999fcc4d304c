/- The walk of ReservoirChecks. Conditions: none beyond the list's reading. -/
import Derived.Test.YtbflocamicebhaaW11
import Derived.Test.YtbflocamicebhaaL6
import Derived.Test.YtbflocamicebhaaW10
namespace Go.Proofs.Ytbflocamicebhaa
open Go.RowKit Go.Shelf

theorem checkF_or (c l s q : Int) : checkF c l s q = 0 ∨ checkF c l s q = 3 := by
  unfold checkF; split <;> simp
theorem demF_or (c l s q : Int) (xs : List Int) : demF c l s q xs = 0 ∨ demF c l s q xs = 3 ∨ demF c l s q xs = 4 := by
  unfold demF
  rcases checkF_or c l s q with h | h <;> rw [h]
  · simp only [ne_eq, not_true_eq_false, if_false]
    split
    · simp
    · split <;> simp
  · simp



set_option maxRecDepth 100000 in
set_option maxHeartbeats 8000000 in
theorem law10_any (c l s q n : Int) (v : Value) (xs : List Int) (w : World) (hv : IntSl w v xs) (hlen : xs.length ≤ 9223372036854775807) :
    Calls Try.prog 10 #[rV c l s q, v, .int .i64 n] w fun e w' => e = .returned (.bool true) ∧ Below w.heap.size w w' := by
  have hb := (Below.refl w.heap.size w).alloc (Nat.le_refl _) (.cells #[.int .i64 c, .int .i64 l, .int .i64 s, .int .i64 q] 28)
  have bP := BoxC.new w 28 #[.int .i64 c, .int .i64 l, .int .i64 s, .int .i64 q]
  have hv0 := hv.mono hb
  obtain ⟨a, cap, hva⟩ := hv.len
  subst hva
  clear hv
  obtain ⟨ch, hch⟩ : ∃ x, checkF c l s q = x := ⟨_, rfl⟩
  have hcor : ch = 0 ∨ ch = 3 := hch ▸ checkF_or c l s q
  obtain ⟨d, hdd⟩ : ∃ x, demF c l s q xs = x := ⟨_, rfl⟩
  have hdor : d = 0 ∨ d = 3 ∨ d = 4 := hdd ▸ demF_or c l s q xs
  have hd3 : ch = 3 → d = 3 := by
    intro h
    rw [← hdd, demF, hch, h]
    rfl
  replace hch := Lib.hid hch
  replace hdd := Lib.hid hdd
  replace hcor := Lib.hid hcor
  replace hdor := Lib.hid hdor
  replace hd3 := Lib.hid hd3
  obtain ⟨y, hy⟩ : ∃ x, windB n 1000000000 = x := ⟨_, rfl⟩
  replace hy := Lib.hid hy
  go_enter Try.func10, Try.ntmps10
  go_wp2_with fail
  refine (known_any _).mono ?_
  rintro e w1 ⟨rfl, hb1⟩
  have hB1 := hb.trans (hb1.mono hb.size)
  have bP1 := bP.grown hb1
  have hv1 := hv0.mono hb1
  clear hb bP hv0 hb1
  have hcase : (xs.length ≤ 12 ∧ xs.length ≤ 140737488355328) ∨ (12 < xs.length ∧ ((xs.length : Int) != 2001) = false ∧ xs.length ≤ 140737488355328) ∨ (12 < xs.length ∧ ((xs.length : Int) != 2001) = true) := by
    by_cases h1 : xs.length ≤ 12
    · exact .inl ⟨h1, by omega⟩
    · by_cases h2 : xs.length = 2001
      · exact .inr (.inl ⟨by omega, by rw [h2]; decide, by omega⟩)
      · exact .inr (.inr ⟨by omega, by simp; omega⟩)
  rcases hcase with ⟨h12, hm⟩ | ⟨h12, h01, hm⟩ | ⟨h12, h01⟩
  case inr.inr =>
    go_wp2_with fail
    refine (known_any _).mono ?_
    rintro e w2 ⟨rfl, hb2⟩
    go_wp2
    go_ret
    exact ⟨rfl, hB1.trans (hb2.mono hB1.size)⟩
  all_goals
    have r0 := bP1.cell 0 rfl
    have r1 := bP1.cell 1 rfl
    have r2 := bP1.cell 2 rfl
    have r3 := bP1.cell 3 rfl
    go_wp2_with fail
    refine (lcheck_any c l s q _).mono ?_
    rintro e w2 ⟨rfl, hb2⟩
    rw [hch.out]
    clear r0 r1 r2 r3
    have hB2 := hB1.trans (hb2.mono hB1.size)
    have bP2 := bP1.grown hb2
    have hv2 := hv1.mono hb2
    clear hB1 bP1 hv1 hb2
    have r0 := bP2.cell 0 rfl
    have r1 := bP2.cell 1 rfl
    have r2 := bP2.cell 2 rfl
    have r3 := bP2.cell 3 rfl
    go_wp2_with fail
    refine (check_any c l s q _).mono ?_
    rintro e w3 ⟨rfl, hb3⟩
    rw [hch.out]
    clear r0 r1 r2 r3
    have hB3 := hB2.trans (hb3.mono hB2.size)
    have bP3 := bP2.grown hb3
    have hv3 := hv2.mono hb3
    clear hB2 bP2 hv2 hb3
    have r0 := bP3.cell 0 rfl
    have r1 := bP3.cell 1 rfl
    have r2 := bP3.cell 2 rfl
    have r3 := bP3.cell 3 rfl
    rcases hcor.out with rfl | rfl
    · cases y
      · go_wp2_with (go_at_call 19; refine (in_any _ _ _).mono ?_; rintro e w' ⟨rfl, rfl⟩; rw [hy.out])
        refine (Step_any c l s q 0 n _).mono ?_
        rintro e w4 ⟨hb4, -, hS, -⟩
        obtain rfl := hS hch.out (by rw [hy.out]; simp)
        clear hS r0 r1 r2 r3
        have hB4 := (hB3.trans (hb4.mono hB3.size)).alloc (hB3.trans (hb4.mono hB3.size)).size (.cells #[.int .i64 0, .int .i64 0, .int .i64 0] 40)
        have bP4 := (bP3.grown hb4).alloc (.cells #[.int .i64 0, .int .i64 0, .int .i64 0] 40)
        have hv4 := (hv3.mono hb4).mono ((Below.refl _ w4).alloc (Nat.le_refl _) (.cells #[.int .i64 0, .int .i64 0, .int .i64 0] 40))
        have bS := BoxC.new w4 40 #[.int .i64 0, .int .i64 0, .int .i64 0]
        clear hB3 bP3 hv3 hb4
        have r0 := bP4.cell 0 rfl
        have r1 := bP4.cell 1 rfl
        have r2 := bP4.cell 2 rfl
        have r3 := bP4.cell 3 rfl
        go_wp2_with fail
        refine (Lasts_any c l s q n _).mono ?_
        rintro e w5 ⟨rfl, hb5⟩
        rw [hch.out, ifOk_zero, hy.out]
        simp only [cond_false]
        clear r0 r1 r2 r3
        have hB5 := hB4.trans (hb5.mono hB4.size)
        have bP5 := bP4.grown hb5
        have hv5 := hv4.mono hb5
        have bS5 := bS.grown hb5
        clear hB4 bP4 hv4 hb5 bS
        have s0 := bS5.cell 0 rfl
        have s1 := bS5.cell 1 rfl
        have s2 := bS5.cell 2 rfl
        have r0 := (bP5).cell 0 rfl
        have r1 := (bP5).cell 1 rfl
        have r2 := (bP5).cell 2 rfl
        have r3 := (bP5).cell 3 rfl
        go_wp2_with fail
        refine (ldemands_any c l s q _ xs _ hv5 hm).mono ?_
        rintro e wl ⟨rfl, hbl⟩
        rw [hdd.out]
        clear r0 r1 r2 r3
        have hBl := (hB5).trans (hbl.mono (hB5).size)
        have bRl := (bP5).grown hbl
        have hvl := (hv5).mono hbl
        clear hbl
        clear s0 s1 s2
        by_cases h0 : d = 0
        · subst h0
          go_wp2
          go_ret
          exact ⟨rfl, hBl⟩
        · have h0' : (d == 0) = false := by simpa using h0
          have hself : (d == d) = true := by simp
          have hd0 : d ≠ 0 := by omega
          have r0 := (bRl).cell 0 rfl
          have r1 := (bRl).cell 1 rfl
          have r2 := (bRl).cell 2 rfl
          have r3 := (bRl).cell 3 rfl
          go_wp2_with fail
          refine (Run_any c l s q _ xs _ hvl hm).mono ?_
          rintro e wa ⟨hba, -, hE⟩
          obtain rfl := hE (by rw [hdd.out]; exact hd0)
          rw [hdd.out]
          clear hE r0 r1 r2 r3
          have hBa := (hBl).trans (hba.mono (hBl).size)
          have bRa := (bRl).grown hba
          have hva := (hvl).mono hba
          have r0 := bRa.cell 0 rfl
          have r1 := bRa.cell 1 rfl
          have r2 := bRa.cell 2 rfl
          have r3 := bRa.cell 3 rfl
          go_wp2_with fail
          refine (Fails_any c l s q _ xs _ hva hm).mono ?_
          rintro e wb ⟨rfl, hbb⟩
          rw [hdd.out, ifOk_ne hd0]
          clear r0 r1 r2 r3
          have hBb := hBa.trans (hbb.mono hBa.size)
          have bRb := bRa.grown hbb
          have hvb := hva.mono hbb
          clear hBa hba bRa hva
          have r0 := bRb.cell 0 rfl
          have r1 := bRb.cell 1 rfl
          have r2 := bRb.cell 2 rfl
          have r3 := bRb.cell 3 rfl
          go_wp2_with fail
          refine (Sags_any c l s q _ xs _ hvb hm).mono ?_
          rintro e wc ⟨rfl, hbc⟩
          rw [hdd.out, ifOk_ne hd0]
          clear r0 r1 r2 r3
          have hBc := hBb.trans (hbc.mono hBb.size)
          have bRc := bRb.grown hbc
          have hvc := hvb.mono hbc
          clear hBb hbb bRb hvb
          have r0 := bRc.cell 0 rfl
          have r1 := bRc.cell 1 rfl
          have r2 := bRc.cell 2 rfl
          have r3 := bRc.cell 3 rfl
          go_wp2_with fail
          refine (Totals_any c l s q _ xs _ hvc hm).mono ?_
          rintro e wd ⟨hbd, -, hE⟩
          obtain rfl := hE (by rw [hdd.out]; exact hd0)
          rw [hdd.out]
          clear hE r0 r1 r2 r3
          have hBd := hBc.trans (hbd.mono hBc.size)
          have bRd := bRc.grown hbd
          have hvd := hvc.mono hbd
          clear hBc hbc bRc hvc
          have r0 := bRd.cell 0 rfl
          have r1 := bRd.cell 1 rfl
          have r2 := bRd.cell 2 rfl
          have r3 := bRd.cell 3 rfl
          go_wp2_with fail
          refine (Supply_any c l s q _ xs _ hvd hm).mono ?_
          rintro e we ⟨hbe, -, hE⟩
          obtain rfl := hE (by rw [hdd.out]; exact hd0)
          rw [hdd.out]
          clear hE r0 r1 r2 r3
          have hBe := hBd.trans (hbe.mono hBd.size)
          have bRe := bRd.grown hbe
          have hve := hvd.mono hbe
          clear hBd hbd bRd hvd
          have r0 := bRe.cell 0 rfl
          have r1 := bRe.cell 1 rfl
          have r2 := bRe.cell 2 rfl
          have r3 := bRe.cell 3 rfl
          go_wp2_with fail
          refine (Start_any c l s q _ xs _ hve hm).mono ?_
          rintro e wf ⟨hbf, -, hE⟩
          obtain rfl := hE (by rw [hdd.out]; exact hd0)
          rw [hdd.out]
          clear hE r0 r1 r2 r3
          have hBf := hBe.trans (hbf.mono hBe.size)
          have bRf := bRe.grown hbf
          have hvf := hve.mono hbf
          clear hBe hbe bRe hve
          have r0 := bRf.cell 0 rfl
          have r1 := bRf.cell 1 rfl
          have r2 := bRf.cell 2 rfl
          have r3 := bRf.cell 3 rfl
          go_wp2_with fail
          refine (Capacity_any c l s q _ xs _ hvf hm).mono ?_
          rintro e wg ⟨hbg, -, hE⟩
          obtain rfl := hE (by rw [hdd.out]; exact hd0)
          rw [hdd.out]
          clear hE r0 r1 r2 r3
          have hBg := hBf.trans (hbg.mono hBf.size)
          clear hBf hbf bRf hvf
          go_wp2
          go_ret
          exact ⟨rfl, hBg⟩
      · go_wp2_with (go_at_call 19; refine (in_any _ _ _).mono ?_; rintro e w' ⟨rfl, rfl⟩; rw [hy.out])
        refine (ldemands_any c l s q _ xs _ hv3 hm).mono ?_
        rintro e wl ⟨rfl, hbl⟩
        rw [hdd.out]
        clear r0 r1 r2 r3
        have hBl := hB3.trans (hbl.mono hB3.size)
        have bRl := bP3.grown hbl
        have hvl := hv3.mono hbl
        clear hbl
        by_cases h0 : d = 0
        · subst h0
          go_wp2
          go_ret
          exact ⟨rfl, hBl⟩
        · have h0' : (d == 0) = false := by simpa using h0
          have hself : (d == d) = true := by simp
          have hd0 : d ≠ 0 := by omega
          have r0 := (bRl).cell 0 rfl
          have r1 := (bRl).cell 1 rfl
          have r2 := (bRl).cell 2 rfl
          have r3 := (bRl).cell 3 rfl
          go_wp2_with fail
          refine (Run_any c l s q _ xs _ hvl hm).mono ?_
          rintro e wa ⟨hba, -, hE⟩
          obtain rfl := hE (by rw [hdd.out]; exact hd0)
          rw [hdd.out]
          clear hE r0 r1 r2 r3
          have hBa := (hBl).trans (hba.mono (hBl).size)
          have bRa := (bRl).grown hba
          have hva := (hvl).mono hba
          have r0 := bRa.cell 0 rfl
          have r1 := bRa.cell 1 rfl
          have r2 := bRa.cell 2 rfl
          have r3 := bRa.cell 3 rfl
          go_wp2_with fail
          refine (Fails_any c l s q _ xs _ hva hm).mono ?_
          rintro e wb ⟨rfl, hbb⟩
          rw [hdd.out, ifOk_ne hd0]
          clear r0 r1 r2 r3
          have hBb := hBa.trans (hbb.mono hBa.size)
          have bRb := bRa.grown hbb
          have hvb := hva.mono hbb
          clear hBa hba bRa hva
          have r0 := bRb.cell 0 rfl
          have r1 := bRb.cell 1 rfl
          have r2 := bRb.cell 2 rfl
          have r3 := bRb.cell 3 rfl
          go_wp2_with fail
          refine (Sags_any c l s q _ xs _ hvb hm).mono ?_
          rintro e wc ⟨rfl, hbc⟩
          rw [hdd.out, ifOk_ne hd0]
          clear r0 r1 r2 r3
          have hBc := hBb.trans (hbc.mono hBb.size)
          have bRc := bRb.grown hbc
          have hvc := hvb.mono hbc
          clear hBb hbb bRb hvb
          have r0 := bRc.cell 0 rfl
          have r1 := bRc.cell 1 rfl
          have r2 := bRc.cell 2 rfl
          have r3 := bRc.cell 3 rfl
          go_wp2_with fail
          refine (Totals_any c l s q _ xs _ hvc hm).mono ?_
          rintro e wd ⟨hbd, -, hE⟩
          obtain rfl := hE (by rw [hdd.out]; exact hd0)
          rw [hdd.out]
          clear hE r0 r1 r2 r3
          have hBd := hBc.trans (hbd.mono hBc.size)
          have bRd := bRc.grown hbd
          have hvd := hvc.mono hbd
          clear hBc hbc bRc hvc
          have r0 := bRd.cell 0 rfl
          have r1 := bRd.cell 1 rfl
          have r2 := bRd.cell 2 rfl
          have r3 := bRd.cell 3 rfl
          go_wp2_with fail
          refine (Supply_any c l s q _ xs _ hvd hm).mono ?_
          rintro e we ⟨hbe, -, hE⟩
          obtain rfl := hE (by rw [hdd.out]; exact hd0)
          rw [hdd.out]
          clear hE r0 r1 r2 r3
          have hBe := hBd.trans (hbe.mono hBd.size)
          have bRe := bRd.grown hbe
          have hve := hvd.mono hbe
          clear hBd hbd bRd hvd
          have r0 := bRe.cell 0 rfl
          have r1 := bRe.cell 1 rfl
          have r2 := bRe.cell 2 rfl
          have r3 := bRe.cell 3 rfl
          go_wp2_with fail
          refine (Start_any c l s q _ xs _ hve hm).mono ?_
          rintro e wf ⟨hbf, -, hE⟩
          obtain rfl := hE (by rw [hdd.out]; exact hd0)
          rw [hdd.out]
          clear hE r0 r1 r2 r3
          have hBf := hBe.trans (hbf.mono hBe.size)
          have bRf := bRe.grown hbf
          have hvf := hve.mono hbf
          clear hBe hbe bRe hve
          have r0 := bRf.cell 0 rfl
          have r1 := bRf.cell 1 rfl
          have r2 := bRf.cell 2 rfl
          have r3 := bRf.cell 3 rfl
          go_wp2_with fail
          refine (Capacity_any c l s q _ xs _ hvf hm).mono ?_
          rintro e wg ⟨hbg, -, hE⟩
          obtain rfl := hE (by rw [hdd.out]; exact hd0)
          rw [hdd.out]
          clear hE r0 r1 r2 r3
          have hBg := hBf.trans (hbg.mono hBf.size)
          clear hBf hbf bRf hvf
          go_wp2
          go_ret
          exact ⟨rfl, hBg⟩
    · obtain rfl := hd3.out rfl
      go_wp2_with fail
      refine (Fills_any c l s q _).mono ?_
      rintro e w4 ⟨rfl, hb4⟩
      rw [hch.out, ifOk_ne (by decide)]
      clear r0 r1 r2 r3
      have hB4 := hB3.trans (hb4.mono hB3.size)
      have bP4 := bP3.grown hb4
      have hv4 := hv3.mono hb4
      clear hB3 bP3 hv3 hb4
      have r0 := bP4.cell 0 rfl
      have r1 := bP4.cell 1 rfl
      have r2 := bP4.cell 2 rfl
      have r3 := bP4.cell 3 rfl
      go_wp2_with fail
      refine (Step_any c l s q 0 n _).mono ?_
      rintro e w5 ⟨hb5, hS, -, -⟩
      obtain rfl := hS (by rw [hch.out]; decide)
      rw [hch.out]
      clear hS r0 r1 r2 r3
      have hB5 := (hB4.trans (hb5.mono hB4.size)).alloc (hB4.trans (hb5.mono hB4.size)).size (.cells #[.int .i64 0, .int .i64 0, .int .i64 0] 40)
      have bP5 := (bP4.grown hb5).alloc (.cells #[.int .i64 0, .int .i64 0, .int .i64 0] 40)
      have hv5 := (hv4.mono hb5).mono ((Below.refl _ w5).alloc (Nat.le_refl _) (.cells #[.int .i64 0, .int .i64 0, .int .i64 0] 40))
      have bS := BoxC.new w5 40 #[.int .i64 0, .int .i64 0, .int .i64 0]
      clear hB4 bP4 hv4 hb5
      have r0 := bP5.cell 0 rfl
      have r1 := bP5.cell 1 rfl
      have r2 := bP5.cell 2 rfl
      have r3 := bP5.cell 3 rfl
      go_wp2_with fail
      refine (Lasts_any c l s q n _).mono ?_
      rintro e w6 ⟨rfl, hb6⟩
      rw [hch.out, ifOk_ne (by decide)]
      clear r0 r1 r2 r3
      have hB6 := hB5.trans (hb6.mono hB5.size)
      have bP6 := bP5.grown hb6
      have hv6 := hv5.mono hb6
      have bS6 := bS.grown hb6
      clear hB5 bP5 hv5 hb6 bS
      have s0 := bS6.cell 0 rfl
      have s1 := bS6.cell 1 rfl
      have s2 := bS6.cell 2 rfl
      have r0 := (bP6).cell 0 rfl
      have r1 := (bP6).cell 1 rfl
      have r2 := (bP6).cell 2 rfl
      have r3 := (bP6).cell 3 rfl
      go_wp2_with fail
      refine (ldemands_any c l s q _ xs _ hv6 hm).mono ?_
      rintro e wl ⟨rfl, hbl⟩
      rw [hdd.out]
      clear r0 r1 r2 r3
      have hBl := (hB6).trans (hbl.mono (hB6).size)
      have bRl := (bP6).grown hbl
      have hvl := (hv6).mono hbl
      clear hbl
      clear s0 s1 s2
      have hd0 : (3:Int) ≠ 0 := by omega
      have r0 := (bRl).cell 0 rfl
      have r1 := (bRl).cell 1 rfl
      have r2 := (bRl).cell 2 rfl
      have r3 := (bRl).cell 3 rfl
      go_wp2_with fail
      refine (Run_any c l s q _ xs _ hvl hm).mono ?_
      rintro e wa ⟨hba, -, hE⟩
      obtain rfl := hE (by rw [hdd.out]; exact hd0)
      rw [hdd.out]
      clear hE r0 r1 r2 r3
      have hBa := (hBl).trans (hba.mono (hBl).size)
      have bRa := (bRl).grown hba
      have hva := (hvl).mono hba
      have r0 := bRa.cell 0 rfl
      have r1 := bRa.cell 1 rfl
      have r2 := bRa.cell 2 rfl
      have r3 := bRa.cell 3 rfl
      go_wp2_with fail
      refine (Fails_any c l s q _ xs _ hva hm).mono ?_
      rintro e wb ⟨rfl, hbb⟩
      rw [hdd.out, ifOk_ne hd0]
      clear r0 r1 r2 r3
      have hBb := hBa.trans (hbb.mono hBa.size)
      have bRb := bRa.grown hbb
      have hvb := hva.mono hbb
      clear hBa hba bRa hva
      have r0 := bRb.cell 0 rfl
      have r1 := bRb.cell 1 rfl
      have r2 := bRb.cell 2 rfl
      have r3 := bRb.cell 3 rfl
      go_wp2_with fail
      refine (Sags_any c l s q _ xs _ hvb hm).mono ?_
      rintro e wc ⟨rfl, hbc⟩
      rw [hdd.out, ifOk_ne hd0]
      clear r0 r1 r2 r3
      have hBc := hBb.trans (hbc.mono hBb.size)
      have bRc := bRb.grown hbc
      have hvc := hvb.mono hbc
      clear hBb hbb bRb hvb
      have r0 := bRc.cell 0 rfl
      have r1 := bRc.cell 1 rfl
      have r2 := bRc.cell 2 rfl
      have r3 := bRc.cell 3 rfl
      go_wp2_with fail
      refine (Totals_any c l s q _ xs _ hvc hm).mono ?_
      rintro e wd ⟨hbd, -, hE⟩
      obtain rfl := hE (by rw [hdd.out]; exact hd0)
      rw [hdd.out]
      clear hE r0 r1 r2 r3
      have hBd := hBc.trans (hbd.mono hBc.size)
      have bRd := bRc.grown hbd
      have hvd := hvc.mono hbd
      clear hBc hbc bRc hvc
      have r0 := bRd.cell 0 rfl
      have r1 := bRd.cell 1 rfl
      have r2 := bRd.cell 2 rfl
      have r3 := bRd.cell 3 rfl
      go_wp2_with fail
      refine (Supply_any c l s q _ xs _ hvd hm).mono ?_
      rintro e we ⟨hbe, -, hE⟩
      obtain rfl := hE (by rw [hdd.out]; exact hd0)
      rw [hdd.out]
      clear hE r0 r1 r2 r3
      have hBe := hBd.trans (hbe.mono hBd.size)
      have bRe := bRd.grown hbe
      have hve := hvd.mono hbe
      clear hBd hbd bRd hvd
      have r0 := bRe.cell 0 rfl
      have r1 := bRe.cell 1 rfl
      have r2 := bRe.cell 2 rfl
      have r3 := bRe.cell 3 rfl
      go_wp2_with fail
      refine (Start_any c l s q _ xs _ hve hm).mono ?_
      rintro e wf ⟨hbf, -, hE⟩
      obtain rfl := hE (by rw [hdd.out]; exact hd0)
      rw [hdd.out]
      clear hE r0 r1 r2 r3
      have hBf := hBe.trans (hbf.mono hBe.size)
      have bRf := bRe.grown hbf
      have hvf := hve.mono hbf
      clear hBe hbe bRe hve
      have r0 := bRf.cell 0 rfl
      have r1 := bRf.cell 1 rfl
      have r2 := bRf.cell 2 rfl
      have r3 := bRf.cell 3 rfl
      go_wp2_with fail
      refine (Capacity_any c l s q _ xs _ hvf hm).mono ?_
      rintro e wg ⟨hbg, -, hE⟩
      obtain rfl := hE (by rw [hdd.out]; exact hd0)
      rw [hdd.out]
      clear hE r0 r1 r2 r3
      have hBg := hBf.trans (hbg.mono hBf.size)
      clear hBf hbf bRf hvf
      go_wp2
      go_ret
      exact ⟨rfl, hBg⟩
end Go.Proofs.Ytbflocamicebhaa
