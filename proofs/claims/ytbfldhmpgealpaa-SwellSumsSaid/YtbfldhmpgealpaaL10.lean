/- The walk of SwellSums. Conditions: none. -/
import Derived.Test.YtbfldhmpgealpaaW15
import Derived.Test.YtbfldhmpgealpaaL3
namespace Go.Proofs.Ytbfldhmpgealpaa
open Go.RowKit

set_option maxRecDepth 100000 in
set_option maxHeartbeats 4000000 in
theorem law10_any (p d f a n : Int) (w : World) : Calls Try.prog 10 #[trV p d f, .int .i64 a, .int .i64 n] w fun e w' => e = .returned (.bool true) ∧ Below w.heap.size w w' := by
  have hB := (Below.refl w.heap.size w).alloc (Nat.le_refl _) (.cells #[.int .i64 p, .int .i64 d, .int .i64 f] 23)
  have bP := BoxC.new w 23 #[.int .i64 p, .int .i64 d, .int .i64 f]
  obtain ⟨q, hq⟩ : ∃ q, tremF p d f = q := ⟨_, rfl⟩
  have hT1 := fun W => tremulant_any p d f W
  rw [hq] at hT1
  replace hT1 := Lib.hid hT1
  by_cases hn1 : 3000 < n
  · clear hq
    go_enter Try.func10, Try.ntmps10
    go_wp2_with fail
    refine (known_any _).mono ?_
    rintro e w1 ⟨rfl, hb1⟩
    have bP1 := bP.grown hb1
    have hB1 := hB.trans (hb1.mono hB.size)
    clear bP hB hb1
    have c0 := bP1.cell 0 rfl
    have c1 := bP1.cell 1 rfl
    have c2 := bP1.cell 2 rfl
    go_wp2_with fail
    refine (known_any _).mono ?_
    rintro e w2 ⟨rfl, hb2⟩
    have bP2 := bP1.grown hb2
    have hB2 := hB1.trans (hb2.mono hB1.size)
    clear bP1 hB1 hb2 c0 c1 c2
    have c0 := bP2.cell 0 rfl
    have c1 := bP2.cell 1 rfl
    have c2 := bP2.cell 2 rfl
    go_wp2
    go_ret
    exact ⟨rfl, hB2⟩
  · by_cases hn2 : n < -3000
    · clear hq
      go_enter Try.func10, Try.ntmps10
      go_wp2_with fail
      refine (known_any _).mono ?_
      rintro e w1 ⟨rfl, hb1⟩
      have bP1 := bP.grown hb1
      have hB1 := hB.trans (hb1.mono hB.size)
      clear bP hB hb1
      have c0 := bP1.cell 0 rfl
      have c1 := bP1.cell 1 rfl
      have c2 := bP1.cell 2 rfl
      go_wp2_with fail
      refine (known_any _).mono ?_
      rintro e w2 ⟨rfl, hb2⟩
      have bP2 := bP1.grown hb2
      have hB2 := hB1.trans (hb2.mono hB1.size)
      clear bP1 hB1 hb2 c0 c1 c2
      have c0 := bP2.cell 0 rfl
      have c1 := bP2.cell 1 rfl
      have c2 := bP2.cell 2 rfl
      go_wp2
      go_ret
      exact ⟨rfl, hB2⟩
    · have hqq := beq_self_int q
      obtain ⟨hqq1, hqq2⟩ := hqq
      by_cases h1 : -1000000000 ≤ a ∧ a ≤ 1000000000
      · have e1 := Lib.hid (betw_true h1)
        obtain ⟨h11, h12⟩ := h1
        have hS := fun W => Sum_any p d f a (a + n) W
        by_cases h0 : q = 0
        · subst h0
          have hok := trOk_of hq
          by_cases h2 : -1000000000 ≤ a + n ∧ a + n ≤ 1000000000
          · have e2 := Lib.hid (betw_true h2)
            by_cases h3 : a + n < a
            · have s1 : SumF p d f a (a + n) = (0, 6) := by
                unfold SumF
                rw [hq, if_neg (by simp), if_neg (by omega), if_pos h3]
              rw [s1] at hS
              replace hS := Lib.hid hS
              clear s1 hq h2
              go_enter Try.func10, Try.ntmps10
              go_wp2_with fail
              refine (known_any _).mono ?_
              rintro e w1 ⟨rfl, hb1⟩
              have bP1 := bP.grown hb1
              have hB1 := hB.trans (hb1.mono hB.size)
              clear bP hB hb1
              have c0 := bP1.cell 0 rfl
              have c1 := bP1.cell 1 rfl
              have c2 := bP1.cell 2 rfl
              go_wp2_with (go_at_call 16; refine (far_any _ _).mono ?_; rintro e w' ⟨rfl, rfl⟩; first | rw [e1.out] | rw [e2.out])
              refine (hS.out _).mono ?_
              rintro e w2 ⟨rfl, hb2⟩
              have bP2 := bP1.grown hb2
              have hB2 := hB1.trans (hb2.mono hB1.size)
              clear bP1 hB1 hb2 c0 c1 c2
              have c0 := bP2.cell 0 rfl
              have c1 := bP2.cell 1 rfl
              have c2 := bP2.cell 2 rfl
              go_wp2_with fail
              refine (hT1.out _).mono ?_
              rintro e w3 ⟨rfl, hb3⟩
              have bP3 := bP2.grown hb3
              have hB3 := hB2.trans (hb3.mono hB2.size)
              clear bP2 hB2 hb3 c0 c1 c2
              have c0 := bP3.cell 0 rfl
              have c1 := bP3.cell 1 rfl
              have c2 := bP3.cell 2 rfl
              go_wp2_with (go_at_call 16; refine (far_any _ _).mono ?_; rintro e w' ⟨rfl, rfl⟩; first | rw [e1.out] | rw [e2.out])
              go_ret
              exact ⟨rfl, hB3⟩
            · have p0 := hok.p0
              have p1 := hok.p1
              have s1 : SumF p d f a (a + n) = (sumTo p d f a n.toNat, 0) := by
                unfold SumF
                rw [hq, if_neg (by simp), if_neg (by omega), if_neg h3, sumTo_emod hok (by omega), show a + n - a = n by omega]
              rw [s1] at hS
              replace hS := Lib.hid hS
              have hn0 : 0 ≤ n := by omega
              obtain ⟨h21, h22⟩ := h2
              have hsh := fun k W h1 h2 => lawShake_any p d f k hok W h1 h2
              have hS2 : a + n + p ≤ 1000000000 → ∀ W, Calls Try.prog 36 #[trV p d f, .int .i64 a, .int .i64 (a + n + p)] W fun e w' => e = .returned (.tuple #[.int .i64 (sumTo p d f a n.toNat), .int .i64 0]) ∧ Below W.heap.size W w' := by
                intro hle W
                have := Sum_any p d f a (a + n + p) W
                have s2 : SumF p d f a (a + n + p) = (sumTo p d f a n.toNat, 0) := by
                  unfold SumF
                  rw [hq, if_neg (by simp), if_neg (by omega), if_neg (by omega), sumTo_emod hok (by omega), show a + n + p - a = n + p by omega, ← sumTo_more hok n.toNat]
                  congr 2
                  omega
                rw [s2] at this
                exact this
              replace hS2 := Lib.hid hS2; replace hsh := Lib.hid hsh
              clear s1 hq hqq1 hqq2
              obtain ⟨X, hX⟩ : ∃ X, sumTo p d f a n.toNat = X := ⟨_, rfl⟩
              rw [hX] at hS hS2
              replace hX := Lib.hid hX
              have hxx := (beq_self_int X).1
              go_enter Try.func10, Try.ntmps10
              go_wp2_with fail
              refine (known_any _).mono ?_
              rintro e w1 ⟨rfl, hb1⟩
              have bP1 := bP.grown hb1
              have hB1 := hB.trans (hb1.mono hB.size)
              clear bP hB hb1
              have c0 := bP1.cell 0 rfl
              have c1 := bP1.cell 1 rfl
              have c2 := bP1.cell 2 rfl
              go_wp2_with (go_at_call 16; refine (far_any _ _).mono ?_; rintro e w' ⟨rfl, rfl⟩; first | rw [e1.out] | rw [e2.out])
              refine (hS.out _).mono ?_
              rintro e w2 ⟨rfl, hb2⟩
              have bP2 := bP1.grown hb2
              have hB2 := hB1.trans (hb2.mono hB1.size)
              clear bP1 hB1 hb2 c0 c1 c2
              have c0 := bP2.cell 0 rfl
              have c1 := bP2.cell 1 rfl
              have c2 := bP2.cell 2 rfl
              go_wp2_with fail
              refine (hT1.out _).mono ?_
              rintro e w3 ⟨rfl, hb3⟩
              have bP3 := bP2.grown hb3
              have hB3 := hB2.trans (hb3.mono hB2.size)
              clear bP2 hB2 hb3 c0 c1 c2
              have c0 := bP3.cell 0 rfl
              have c1 := bP3.cell 1 rfl
              have c2 := bP3.cell 2 rfl
              go_wp2_with (go_at_call 16; refine (far_any _ _).mono ?_; rintro e w' ⟨rfl, rfl⟩; first | rw [e1.out] | rw [e2.out])
              clear e2
              go_loopw [11, 12] (fun s i wr => ∃ k : Nat, (k : Int) ≤ n ∧ i = .int .i64 (a + k) ∧ s = .int .i64 (sumTo p d f a k) ∧ Below w3.heap.size w3 wr) (fun _ i _ => (a + n - intOf i).toNat)
              case atStart => exact ⟨0, by omega, by simp, rfl, Below.refl _ _⟩
              case round =>
                obtain ⟨k, hk, rfl, rfl, hBr⟩ := hrel
                have bPr := bP3.grown hBr
                have hBw := hB3.trans (hBr.mono hB3.size)
                clear c0 c1 c2
                have c0 := bPr.cell 0 rfl
                have c1 := bPr.cell 1 rfl
                have c2 := bPr.cell 2 rfl
                by_cases hlt : (k : Int) < n
                · have hcl := hsh.out (a + k) wr (by omega) (by omega)
                  have hs1 := sumTo_bd (a := a) hok k
                  have hs2 := shakeF_bd p d f (a + k) hok
                  have hd1 := hok.d1
                  have hsu : sumTo p d f a (k + 1) = sumTo p d f a k + shakeF p d f (a + k) := rfl
                  generalize sumTo p d f a k = S at hs1 hsu ⊢
                  generalize shakeF p d f (a + k) = x at hcl hs2 hsu
                  replace hsu := Lib.hid hsu; replace hcl := Lib.hid hcl
                  have hab : a + (k : Int) < a + n := by omega
                  clear bPr hBw bP3 hB3
                  go_wp2_with fail
                  refine hcl.out.mono ?_
                  rintro e w4 ⟨rfl, hb4⟩
                  go_wp2
                  go_roundw
                  case rel => exact ⟨k + 1, by omega, by go_num, by rw [hsu.out], hBr.trans (hb4.mono hBr.size)⟩
                  case measure => simp [intOf]; omega
                · obtain rfl : n = (k : Int) := by omega
                  have hX2 : sumTo p d f a k = X := by rw [← hX.out]; rfl
                  rw [hX2]
                  clear hX2
                  by_cases h4 : a + (k : Int) + p ≤ 1000000000
                  · have e3 : betw (a + (k : Int) + p) (-1000000000) 1000000000 = true := betw_true (by omega)
                    replace e3 := Lib.hid e3
                    have hcl := Lib.hid (hS2.out h4 wr)
                    go_wp2_with (first | (go_at_call 16; refine (far_any _ _).mono ?_; rintro e w' ⟨rfl, rfl⟩; rw [e3.out]) | (go_at_call 36; refine hcl.out.mono ?_; rintro e w5 ⟨rfl, hb5⟩))
                    go_ret
                    exact ⟨rfl, hBw.trans (hb5.mono hBw.size)⟩
                  · have e3 : betw (a + (k : Int) + p) (-1000000000) 1000000000 = false := betw_false (by omega)
                    replace e3 := Lib.hid e3
                    go_wp2_with (go_at_call 16; refine (far_any _ _).mono ?_; rintro e w' ⟨rfl, rfl⟩; rw [e3.out])
                    go_ret
                    exact ⟨rfl, hBw⟩
          · have e2 := Lib.hid (betw_false h2)
            have s1 : SumF p d f a (a + n) = (0, 3) := by
              unfold SumF
              rw [hq, if_neg (by simp), if_pos (.inr h2)]
            rw [s1] at hS
            replace hS := Lib.hid hS
            clear s1 hq h2
            go_enter Try.func10, Try.ntmps10
            go_wp2_with fail
            refine (known_any _).mono ?_
            rintro e w1 ⟨rfl, hb1⟩
            have bP1 := bP.grown hb1
            have hB1 := hB.trans (hb1.mono hB.size)
            clear bP hB hb1
            have c0 := bP1.cell 0 rfl
            have c1 := bP1.cell 1 rfl
            have c2 := bP1.cell 2 rfl
            go_wp2_with (go_at_call 16; refine (far_any _ _).mono ?_; rintro e w' ⟨rfl, rfl⟩; first | rw [e1.out] | rw [e2.out])
            refine (hS.out _).mono ?_
            rintro e w2 ⟨rfl, hb2⟩
            have bP2 := bP1.grown hb2
            have hB2 := hB1.trans (hb2.mono hB1.size)
            clear bP1 hB1 hb2 c0 c1 c2
            have c0 := bP2.cell 0 rfl
            have c1 := bP2.cell 1 rfl
            have c2 := bP2.cell 2 rfl
            go_wp2_with fail
            refine (hT1.out _).mono ?_
            rintro e w3 ⟨rfl, hb3⟩
            have bP3 := bP2.grown hb3
            have hB3 := hB2.trans (hb3.mono hB2.size)
            clear bP2 hB2 hb3 c0 c1 c2
            have c0 := bP3.cell 0 rfl
            have c1 := bP3.cell 1 rfl
            have c2 := bP3.cell 2 rfl
            go_wp2_with (go_at_call 16; refine (far_any _ _).mono ?_; rintro e w' ⟨rfl, rfl⟩; first | rw [e1.out] | rw [e2.out])
            go_ret
            exact ⟨rfl, hB3⟩
        · have s1 : SumF p d f a (a + n) = (0, q) := by
            unfold SumF
            rw [hq, if_pos h0]
          rw [s1] at hS
          replace hS := Lib.hid hS
          obtain ⟨g1, g2⟩ := neq_of h0
          clear s1 hq h0
          go_enter Try.func10, Try.ntmps10
          go_wp2_with fail
          refine (known_any _).mono ?_
          rintro e w1 ⟨rfl, hb1⟩
          have bP1 := bP.grown hb1
          have hB1 := hB.trans (hb1.mono hB.size)
          clear bP hB hb1
          have c0 := bP1.cell 0 rfl
          have c1 := bP1.cell 1 rfl
          have c2 := bP1.cell 2 rfl
          go_wp2_with (go_at_call 16; refine (far_any _ _).mono ?_; rintro e w' ⟨rfl, rfl⟩; rw [e1.out])
          refine (hS.out _).mono ?_
          rintro e w2 ⟨rfl, hb2⟩
          have bP2 := bP1.grown hb2
          have hB2 := hB1.trans (hb2.mono hB1.size)
          clear bP1 hB1 hb2 c0 c1 c2
          have c0 := bP2.cell 0 rfl
          have c1 := bP2.cell 1 rfl
          have c2 := bP2.cell 2 rfl
          go_wp2_with fail
          refine (hT1.out _).mono ?_
          rintro e w3 ⟨rfl, hb3⟩
          have bP3 := bP2.grown hb3
          have hB3 := hB2.trans (hb3.mono hB2.size)
          clear bP2 hB2 hb3 c0 c1 c2
          have c0 := bP3.cell 0 rfl
          have c1 := bP3.cell 1 rfl
          have c2 := bP3.cell 2 rfl
          go_wp2_with (go_at_call 16; refine (far_any _ _).mono ?_; rintro e w' ⟨rfl, rfl⟩; rw [e1.out])
          go_ret
          exact ⟨rfl, hB3⟩
      · have e1 := Lib.hid (betw_false h1)
        have hS := fun W => Sum_any p d f a a W
        by_cases h0 : q = 0
        · subst h0
          have s1 : SumF p d f a a = (0, 3) := by
            unfold SumF
            rw [hq, if_neg (by simp), if_pos (.inl h1)]
          rw [s1] at hS
          replace hS := Lib.hid hS
          clear s1 hq h1
          go_enter Try.func10, Try.ntmps10
          go_wp2_with fail
          refine (known_any _).mono ?_
          rintro e w1 ⟨rfl, hb1⟩
          have bP1 := bP.grown hb1
          have hB1 := hB.trans (hb1.mono hB.size)
          clear bP hB hb1
          have c0 := bP1.cell 0 rfl
          have c1 := bP1.cell 1 rfl
          have c2 := bP1.cell 2 rfl
          go_wp2_with (go_at_call 16; refine (far_any _ _).mono ?_; rintro e w' ⟨rfl, rfl⟩; rw [e1.out])
          refine (hS.out _).mono ?_
          rintro e w2 ⟨rfl, hb2⟩
          have bP2 := bP1.grown hb2
          have hB2 := hB1.trans (hb2.mono hB1.size)
          clear bP1 hB1 hb2 c0 c1 c2
          have c0 := bP2.cell 0 rfl
          have c1 := bP2.cell 1 rfl
          have c2 := bP2.cell 2 rfl
          go_wp2_with fail
          refine (hT1.out _).mono ?_
          rintro e w3 ⟨rfl, hb3⟩
          have bP3 := bP2.grown hb3
          have hB3 := hB2.trans (hb3.mono hB2.size)
          clear bP2 hB2 hb3 c0 c1 c2
          have c0 := bP3.cell 0 rfl
          have c1 := bP3.cell 1 rfl
          have c2 := bP3.cell 2 rfl
          go_wp2_with (go_at_call 16; refine (far_any _ _).mono ?_; rintro e w' ⟨rfl, rfl⟩; rw [e1.out])
          go_ret
          exact ⟨rfl, hB3⟩
        · have s1 : SumF p d f a a = (0, q) := by
            unfold SumF
            rw [hq, if_pos h0]
          rw [s1] at hS
          replace hS := Lib.hid hS
          obtain ⟨g1, g2⟩ := neq_of h0
          clear s1 hq h0 h1
          go_enter Try.func10, Try.ntmps10
          go_wp2_with fail
          refine (known_any _).mono ?_
          rintro e w1 ⟨rfl, hb1⟩
          have bP1 := bP.grown hb1
          have hB1 := hB.trans (hb1.mono hB.size)
          clear bP hB hb1
          have c0 := bP1.cell 0 rfl
          have c1 := bP1.cell 1 rfl
          have c2 := bP1.cell 2 rfl
          go_wp2_with (go_at_call 16; refine (far_any _ _).mono ?_; rintro e w' ⟨rfl, rfl⟩; rw [e1.out])
          refine (hS.out _).mono ?_
          rintro e w2 ⟨rfl, hb2⟩
          have bP2 := bP1.grown hb2
          have hB2 := hB1.trans (hb2.mono hB1.size)
          clear bP1 hB1 hb2 c0 c1 c2
          have c0 := bP2.cell 0 rfl
          have c1 := bP2.cell 1 rfl
          have c2 := bP2.cell 2 rfl
          go_wp2_with fail
          refine (hT1.out _).mono ?_
          rintro e w3 ⟨rfl, hb3⟩
          have bP3 := bP2.grown hb3
          have hB3 := hB2.trans (hb3.mono hB2.size)
          clear bP2 hB2 hb3 c0 c1 c2
          have c0 := bP3.cell 0 rfl
          have c1 := bP3.cell 1 rfl
          have c2 := bP3.cell 2 rfl
          go_wp2_with (go_at_call 16; refine (far_any _ _).mono ?_; rintro e w' ⟨rfl, rfl⟩; rw [e1.out])
          go_ret
          exact ⟨rfl, hB3⟩
end Go.Proofs.Ytbfldhmpgealpaa
