/- The walk of SwellSteady. Conditions: none. -/
import Derived.Test.YtbfldhmpgealpaaW15
namespace Go.Proofs.Ytbfldhmpgealpaa
open Go.RowKit

set_option maxRecDepth 100000 in
set_option maxHeartbeats 4000000 in
theorem law11_any (p d f a b : Int) (w : World) : Calls Try.prog 11 #[trV p d f, .int .i64 a, .int .i64 b] w fun e w' => e = .returned (.bool true) ∧ Below w.heap.size w w' := by
  have hB := (Below.refl w.heap.size w).alloc (Nat.le_refl _) (.cells #[.int .i64 p, .int .i64 d, .int .i64 f] 23)
  have bP := BoxC.new w 23 #[.int .i64 p, .int .i64 d, .int .i64 f]
  obtain ⟨q, hq⟩ : ∃ q, tremF p d f = q := ⟨_, rfl⟩
  have hT1 := fun W => tremulant_any p d f W
  rw [hq] at hT1
  replace hT1 := Lib.hid hT1
  by_cases h0 : q = 0
  · subst h0
    have hok := trOk_of hq
    by_cases h1 : -1000000000 ≤ a ∧ a ≤ 1000000000
    · have e1 := Lib.hid (betw_true h1)
      by_cases h2 : -1000000000 ≤ b ∧ b ≤ 1000000000
      · have e2 := Lib.hid (betw_true h2)
        by_cases h3 : b < a
        · clear h1 h2 hq
          go_enter Try.func11, Try.ntmps11
          go_wp2_with fail
          refine (known_any _).mono ?_
          rintro e w1 ⟨rfl, hb1⟩
          have bP1 := bP.grown hb1
          have hB1 := hB.trans (hb1.mono hB.size)
          clear bP hB hb1
          have c0 := bP1.cell 0 rfl
          have c1 := bP1.cell 1 rfl
          have c2 := bP1.cell 2 rfl
          go_wp2_with fail
          refine (hT1.out _).mono ?_
          rintro e w2 ⟨rfl, hb2⟩
          have bP2 := bP1.grown hb2
          have hB2 := hB1.trans (hb2.mono hB1.size)
          clear bP1 hB1 hb2 c0 c1 c2
          have c0 := bP2.cell 0 rfl
          have c1 := bP2.cell 1 rfl
          have c2 := bP2.cell 2 rfl
          go_wp2_with (go_at_call 16; refine (far_any _ _).mono ?_; rintro e w' ⟨rfl, rfl⟩; first | rw [e1.out] | rw [e2.out])
          refine (known_any _).mono ?_
          rintro e w3 ⟨rfl, hb3⟩
          have bP3 := bP2.grown hb3
          have hB3 := hB2.trans (hb3.mono hB2.size)
          clear bP2 hB2 hb3 c0 c1 c2
          have c0 := bP3.cell 0 rfl
          have c1 := bP3.cell 1 rfl
          have c2 := bP3.cell 2 rfl
          go_wp2
          go_ret
          exact ⟨rfl, hB3⟩
        · have hm : 0 ≤ (b - a) / 2 ∧ (b - a) / 2 ≤ b - a := by omega
          obtain ⟨m, hmm⟩ : ∃ m, a + (b - a) / 2 = m := ⟨_, rfl⟩
          have hm1 : a ≤ m ∧ m ≤ b := by omega
          have s1 : SumF p d f a m = (sumTo p d f a (m - a).toNat, 0) := by
            unfold SumF
            rw [hq, if_neg (by simp), if_neg (by omega), if_neg (by omega), sumTo_emod hok (by omega)]
          have s2 : SumF p d f m b = (sumTo p d f m (b - m).toNat, 0) := by
            unfold SumF
            rw [hq, if_neg (by simp), if_neg (by omega), if_neg (by omega), sumTo_emod hok (by omega)]
          have s3 : SumF p d f a b = (sumTo p d f a (b - a).toNat, 0) := by
            unfold SumF
            rw [hq, if_neg (by simp), if_neg (by omega), if_neg (by omega), sumTo_emod hok (by omega)]
          have s4 : sumTo p d f a (m - a).toNat + sumTo p d f m (b - m).toNat = sumTo p d f a (b - a).toNat := by
            have := sumTo_add p d f a (m - a).toNat (b - m).toNat
            rw [show (m - a).toNat + (b - m).toNat = (b - a).toNat by omega, show a + ((m - a).toNat : Int) = m by omega] at this
            exact this.symm
          have bd : ∀ (x n : Int), 0 ≤ n → -10000000000 ≤ sumTo p d f x n.toNat ∧ sumTo p d f x n.toNat ≤ 10000000000 := by
            intro x n hn
            rw [← sumTo_emod hok hn]
            have := sumTo_bd (a := x) hok (n % p).toNat
            have := Int.emod_lt_of_pos n (show 0 < p by have := hok.p0; omega)
            have := Int.emod_nonneg n (show p ≠ 0 by have := hok.p0; omega)
            have := hok.p1
            omega
          have bc : -(d * p) ≤ sumTo p d f a (b - a).toNat ∧ sumTo p d f a (b - a).toNat ≤ d * p := by
            rw [← sumTo_emod hok (by omega)]
            have g1 := sumTo_le (a := a) hok ((b - a) % p).toNat
            have g2 := Int.emod_lt_of_pos (b - a) (show 0 < p by have := hok.p0; omega)
            have g3 := Int.emod_nonneg (b - a) (show p ≠ 0 by have := hok.p0; omega)
            have g4 : (((b - a) % p).toNat : Int) * d ≤ p * d := Int.mul_le_mul_of_nonneg_right (by omega) hok.d0
            rw [Int.mul_comm p d] at g4
            omega
          have hb1 := bd a (m - a) (by omega)
          have hb2 := bd m (b - m) (by omega)
          have hb3 := bd a (b - a) (by omega)
          have hdp : 0 ≤ d * p ∧ d * p ≤ 10000000000 := by
            have g1 := hok.p0; have g2 := hok.p1; have g3 := hok.d0; have g4 := hok.d1
            have a1 : d * p ≤ d * 10000 := Int.mul_le_mul_of_nonneg_left g2 g3
            have a2 : 0 ≤ d * p := Int.mul_nonneg g3 (by omega)
            omega
          have hS1 := fun W => Sum_any p d f a m W
          have hS2 := fun W => Sum_any p d f m b W
          have hS3 := fun W => Sum_any p d f a b W
          rw [s1] at hS1
          rw [s2] at hS2
          rw [s3] at hS3
          clear bd s1 s2 s3 hq
          generalize sumTo p d f a (m - a).toNat = x at *
          generalize sumTo p d f m (b - m).toNat = y at *
          generalize sumTo p d f a (b - a).toNat = z at *
          obtain ⟨h11, h12⟩ := h1
          obtain ⟨h21, h22⟩ := h2
          obtain ⟨N, hN⟩ : ∃ N, absI (z - 0) = N := ⟨_, rfl⟩
          have hNb : 0 ≤ N ∧ N ≤ d * p := by rw [← hN]; unfold absI; omega
          have hcall := fun W => distance_any z 0 W (by omega) (by omega) (by omega) (by omega)
          rw [hN] at hcall
          replace hcall := Lib.hid hcall; replace hS1 := Lib.hid hS1; replace hS2 := Lib.hid hS2; replace hS3 := Lib.hid hS3
          obtain ⟨r, hr⟩ : ∃ r, d * p = r := ⟨_, rfl⟩
          rw [hr] at hdp hNb
          have w1' : IntKind.i64.wrap (x + y) = x + y := IntWalk.i64_in _ (by omega)
          have w2' : IntKind.i64.wrap (d * p) = r := by rw [hr]; exact IntWalk.i64_in _ (by omega)
          have t1 : (x + y == z) = true := by simpa using s4
          have t2 : decide (N ≤ r) = true := by simpa using hNb.2
          replace w1' := Lib.hid w1'; replace w2' := Lib.hid w2'; replace hmm := Lib.hid hmm
          clear hN hr s4 bc
          go_enter Try.func11, Try.ntmps11
          go_wp2_with fail
          refine (known_any _).mono ?_
          rintro e w1 ⟨rfl, hb1⟩
          have bP1 := bP.grown hb1
          have hB1 := hB.trans (hb1.mono hB.size)
          clear bP hB hb1
          have c0 := bP1.cell 0 rfl
          have c1 := bP1.cell 1 rfl
          have c2 := bP1.cell 2 rfl
          go_wp2_with fail
          refine (hT1.out _).mono ?_
          rintro e w2 ⟨rfl, hb2⟩
          have bP2 := bP1.grown hb2
          have hB2 := hB1.trans (hb2.mono hB1.size)
          clear bP1 hB1 hb2 c0 c1 c2
          have c0 := bP2.cell 0 rfl
          have c1 := bP2.cell 1 rfl
          have c2 := bP2.cell 2 rfl
          go_wp2_with (go_at_call 16; refine (far_any _ _).mono ?_; rintro e w' ⟨rfl, rfl⟩; first | rw [e1.out] | rw [e2.out])
          rw [hmm.out]
          go_wp2_with fail
          refine (hS1.out _).mono ?_
          rintro e w3 ⟨rfl, hb3⟩
          have bP3 := bP2.grown hb3
          have hB3 := hB2.trans (hb3.mono hB2.size)
          clear bP2 hB2 hb3 c0 c1 c2
          have c0 := bP3.cell 0 rfl
          have c1 := bP3.cell 1 rfl
          have c2 := bP3.cell 2 rfl
          go_wp2_with fail
          refine (hS2.out _).mono ?_
          rintro e w4 ⟨rfl, hb4⟩
          have bP4 := bP3.grown hb4
          have hB4 := hB3.trans (hb4.mono hB3.size)
          clear bP3 hB3 hb4 c0 c1 c2
          have c0 := bP4.cell 0 rfl
          have c1 := bP4.cell 1 rfl
          have c2 := bP4.cell 2 rfl
          go_wp2_with fail
          refine (hS3.out _).mono ?_
          rintro e w5 ⟨rfl, hb5⟩
          have bP5 := bP4.grown hb5
          have hB5 := hB4.trans (hb5.mono hB4.size)
          clear bP4 hB4 hb5 c0 c1 c2
          have c0 := bP5.cell 0 rfl
          have c1 := bP5.cell 1 rfl
          have c2 := bP5.cell 2 rfl
          go_wp2_with fail
          replace w1' := w1'.out; replace w2' := w2'.out
          go_quiet ((go_at_call 29; exact quiet_left (hcall.out _)))
          go_wp2
          go_ret
          exact ⟨rfl, below_drewN hB5 _⟩
      · have e2 := Lib.hid (betw_false h2)
        clear h1 h2 hq
        go_enter Try.func11, Try.ntmps11
        go_wp2_with fail
        refine (known_any _).mono ?_
        rintro e w1 ⟨rfl, hb1⟩
        have bP1 := bP.grown hb1
        have hB1 := hB.trans (hb1.mono hB.size)
        clear bP hB hb1
        have c0 := bP1.cell 0 rfl
        have c1 := bP1.cell 1 rfl
        have c2 := bP1.cell 2 rfl
        go_wp2_with fail
        refine (hT1.out _).mono ?_
        rintro e w2 ⟨rfl, hb2⟩
        have bP2 := bP1.grown hb2
        have hB2 := hB1.trans (hb2.mono hB1.size)
        clear bP1 hB1 hb2 c0 c1 c2
        have c0 := bP2.cell 0 rfl
        have c1 := bP2.cell 1 rfl
        have c2 := bP2.cell 2 rfl
        go_wp2_with (go_at_call 16; refine (far_any _ _).mono ?_; rintro e w' ⟨rfl, rfl⟩; first | rw [e1.out] | rw [e2.out])
        refine (known_any _).mono ?_
        rintro e w3 ⟨rfl, hb3⟩
        have bP3 := bP2.grown hb3
        have hB3 := hB2.trans (hb3.mono hB2.size)
        clear bP2 hB2 hb3 c0 c1 c2
        have c0 := bP3.cell 0 rfl
        have c1 := bP3.cell 1 rfl
        have c2 := bP3.cell 2 rfl
        go_wp2
        go_ret
        exact ⟨rfl, hB3⟩
    · have e1 := Lib.hid (betw_false h1)
      clear h1 hq
      go_enter Try.func11, Try.ntmps11
      go_wp2_with fail
      refine (known_any _).mono ?_
      rintro e w1 ⟨rfl, hb1⟩
      have bP1 := bP.grown hb1
      have hB1 := hB.trans (hb1.mono hB.size)
      clear bP hB hb1
      have c0 := bP1.cell 0 rfl
      have c1 := bP1.cell 1 rfl
      have c2 := bP1.cell 2 rfl
      go_wp2_with fail
      refine (hT1.out _).mono ?_
      rintro e w2 ⟨rfl, hb2⟩
      have bP2 := bP1.grown hb2
      have hB2 := hB1.trans (hb2.mono hB1.size)
      clear bP1 hB1 hb2 c0 c1 c2
      have c0 := bP2.cell 0 rfl
      have c1 := bP2.cell 1 rfl
      have c2 := bP2.cell 2 rfl
      go_wp2_with (go_at_call 16; refine (far_any _ _).mono ?_; rintro e w' ⟨rfl, rfl⟩; rw [e1.out])
      refine (known_any _).mono ?_
      rintro e w3 ⟨rfl, hb3⟩
      have bP3 := bP2.grown hb3
      have hB3 := hB2.trans (hb3.mono hB2.size)
      clear bP2 hB2 hb3 c0 c1 c2
      have c0 := bP3.cell 0 rfl
      have c1 := bP3.cell 1 rfl
      have c2 := bP3.cell 2 rfl
      go_wp2
      go_ret
      exact ⟨rfl, hB3⟩
  · obtain ⟨g1, g2⟩ := neq_of h0
    clear h0 hq
    go_enter Try.func11, Try.ntmps11
    go_wp2_with fail
    refine (known_any _).mono ?_
    rintro e w1 ⟨rfl, hb1⟩
    have bP1 := bP.grown hb1
    have hB1 := hB.trans (hb1.mono hB.size)
    clear bP hB hb1
    have c0 := bP1.cell 0 rfl
    have c1 := bP1.cell 1 rfl
    have c2 := bP1.cell 2 rfl
    go_wp2_with fail
    refine (hT1.out _).mono ?_
    rintro e w2 ⟨rfl, hb2⟩
    have bP2 := bP1.grown hb2
    have hB2 := hB1.trans (hb2.mono hB1.size)
    clear bP1 hB1 hb2 c0 c1 c2
    have c0 := bP2.cell 0 rfl
    have c1 := bP2.cell 1 rfl
    have c2 := bP2.cell 2 rfl
    go_wp2_with fail
    refine (known_any _).mono ?_
    rintro e w3 ⟨rfl, hb3⟩
    have bP3 := bP2.grown hb3
    have hB3 := hB2.trans (hb3.mono hB2.size)
    clear bP2 hB2 hb3 c0 c1 c2
    have c0 := bP3.cell 0 rfl
    have c1 := bP3.cell 1 rfl
    have c2 := bP3.cell 2 rfl
    go_wp2
    go_ret
    exact ⟨rfl, hB3⟩
end Go.Proofs.Ytbfldhmpgealpaa
