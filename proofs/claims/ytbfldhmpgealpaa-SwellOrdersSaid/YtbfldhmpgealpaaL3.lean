/- The walk of SwellShakes. Conditions: none. -/
import Derived.Test.YtbfldhmpgealpaaW14
namespace Go.Proofs.Ytbfldhmpgealpaa
open Go.RowKit

theorem beq_self_int (d : Int) : (d == d) = true ∧ (d != d) = false := by simp

set_option maxRecDepth 100000 in
set_option maxHeartbeats 4000000 in
theorem law3_any (p d f t : Int) (w : World) : Calls Try.prog 3 #[trV p d f, .int .i64 t] w fun e w' => e = .returned (.bool true) ∧ Below w.heap.size w w' := by
  have hB := (Below.refl w.heap.size w).alloc (Nat.le_refl _) (.cells #[.int .i64 p, .int .i64 d, .int .i64 f] 23)
  have bP := BoxC.new w 23 #[.int .i64 p, .int .i64 d, .int .i64 f]
  obtain ⟨q, hq⟩ : ∃ q, tremF p d f = q := ⟨_, rfl⟩
  have hT1 := fun W => tremulant_any p d f W
  have hT2 := fun W => CheckTremulant_any p d f W
  have hT3 := fun W => Shake_any p d f t W
  have hSh : ShakeF p d f t = if q ≠ 0 then (0, q) else if ¬ (-1000000000 ≤ t ∧ t ≤ 1000000000) then (0, 3) else (shakeF p d f t, 0) := by unfold ShakeF; rw [hq]
  rw [hq] at hT1 hT2
  replace hT1 := Lib.hid hT1; replace hT2 := Lib.hid hT2
  have hqq := beq_self_int q
  obtain ⟨hqq1, hqq2⟩ := hqq
  by_cases h0 : q = 0
  · subst h0
    have hok := trOk_of hq
    clear hq
    rw [if_neg (by simp)] at hSh
    by_cases h1 : -1000000000 ≤ t ∧ t ≤ 1000000000
    · have e1 := Lib.hid (betw_true h1)
      rw [if_neg (by simpa using h1)] at hSh
      rw [hSh] at hT3
      have hT4 := fun W => lawShake_any p d f t hok W (by omega) (by omega)
      clear h1 hSh
      generalize shakeF p d f t = x at hT3 hT4
      have hxx := (beq_self_int x).1
      replace hT3 := Lib.hid hT3; replace hT4 := Lib.hid hT4
      go_enter Try.func3, Try.ntmps3
      go_wp2_with fail
      refine (known_any _).mono ?_
      rintro e w1 ⟨rfl, hb1⟩
      have bP1 := bP.grown hb1
      have hB1 := hB.trans (hb1.mono hB.size)
      clear bP hB hb1
      have c0 := bP1.cell 0 rfl
      have c1 := bP1.cell 1 rfl
      have c2 := bP1.cell 2 rfl
      go_wp2_with fail
      refine (hT1.out _).mono ?_
      rintro e w2 ⟨rfl, hb2⟩
      have bP2 := bP1.grown hb2
      have hB2 := hB1.trans (hb2.mono hB1.size)
      clear bP1 hB1 hb2 c0 c1 c2
      have c0 := bP2.cell 0 rfl
      have c1 := bP2.cell 1 rfl
      have c2 := bP2.cell 2 rfl
      go_wp2_with fail
      refine (hT3.out _).mono ?_
      rintro e w3 ⟨rfl, hb3⟩
      have bP3 := bP2.grown hb3
      have hB3 := hB2.trans (hb3.mono hB2.size)
      clear bP2 hB2 hb3 c0 c1 c2
      have c0 := bP3.cell 0 rfl
      have c1 := bP3.cell 1 rfl
      have c2 := bP3.cell 2 rfl
      go_wp2_with fail
      refine (hT2.out _).mono ?_
      rintro e w4 ⟨rfl, hb4⟩
      have bP4 := bP3.grown hb4
      have hB4 := hB3.trans (hb4.mono hB3.size)
      clear bP3 hB3 hb4 c0 c1 c2
      have c0 := bP4.cell 0 rfl
      have c1 := bP4.cell 1 rfl
      have c2 := bP4.cell 2 rfl
      go_wp2_with (first | (go_at_call 16; refine (far_any _ _).mono ?_; rintro e w' ⟨rfl, rfl⟩; rw [e1.out]) | (go_at_call 17; refine (hT4.out _).mono ?_; rintro e w5 ⟨rfl, hb5⟩))
      go_ret
      exact ⟨rfl, hB4.trans (hb5.mono hB4.size)⟩
    · have e1 := Lib.hid (betw_false h1)
      rw [if_pos h1] at hSh
      rw [hSh] at hT3
      clear h1 hSh
      replace hT3 := Lib.hid hT3
      go_enter Try.func3, Try.ntmps3
      go_wp2_with fail
      refine (known_any _).mono ?_
      rintro e w1 ⟨rfl, hb1⟩
      have bP1 := bP.grown hb1
      have hB1 := hB.trans (hb1.mono hB.size)
      clear bP hB hb1
      have c0 := bP1.cell 0 rfl
      have c1 := bP1.cell 1 rfl
      have c2 := bP1.cell 2 rfl
      go_wp2_with fail
      refine (hT1.out _).mono ?_
      rintro e w2 ⟨rfl, hb2⟩
      have bP2 := bP1.grown hb2
      have hB2 := hB1.trans (hb2.mono hB1.size)
      clear bP1 hB1 hb2 c0 c1 c2
      have c0 := bP2.cell 0 rfl
      have c1 := bP2.cell 1 rfl
      have c2 := bP2.cell 2 rfl
      go_wp2_with fail
      refine (hT3.out _).mono ?_
      rintro e w3 ⟨rfl, hb3⟩
      have bP3 := bP2.grown hb3
      have hB3 := hB2.trans (hb3.mono hB2.size)
      clear bP2 hB2 hb3 c0 c1 c2
      have c0 := bP3.cell 0 rfl
      have c1 := bP3.cell 1 rfl
      have c2 := bP3.cell 2 rfl
      go_wp2_with fail
      refine (hT2.out _).mono ?_
      rintro e w4 ⟨rfl, hb4⟩
      have hB4 := hB3.trans (hb4.mono hB3.size)
      clear bP3 hB3 hb4 c0 c1 c2
      go_wp2_with (go_at_call 16; refine (far_any _ _).mono ?_; rintro e w' ⟨rfl, rfl⟩; rw [e1.out])
      go_ret
      exact ⟨rfl, hB4⟩
  · rw [if_pos h0] at hSh
    rw [hSh] at hT3
    obtain ⟨g1, g2⟩ := neq_of h0
    clear hq h0 hSh
    replace hT3 := Lib.hid hT3
    go_enter Try.func3, Try.ntmps3
    go_wp2_with fail
    refine (known_any _).mono ?_
    rintro e w1 ⟨rfl, hb1⟩
    have bP1 := bP.grown hb1
    have hB1 := hB.trans (hb1.mono hB.size)
    clear bP hB hb1
    have c0 := bP1.cell 0 rfl
    have c1 := bP1.cell 1 rfl
    have c2 := bP1.cell 2 rfl
    go_wp2_with fail
    refine (hT1.out _).mono ?_
    rintro e w2 ⟨rfl, hb2⟩
    have bP2 := bP1.grown hb2
    have hB2 := hB1.trans (hb2.mono hB1.size)
    clear bP1 hB1 hb2 c0 c1 c2
    have c0 := bP2.cell 0 rfl
    have c1 := bP2.cell 1 rfl
    have c2 := bP2.cell 2 rfl
    go_wp2_with fail
    refine (hT3.out _).mono ?_
    rintro e w3 ⟨rfl, hb3⟩
    have bP3 := bP2.grown hb3
    have hB3 := hB2.trans (hb3.mono hB2.size)
    clear bP2 hB2 hb3 c0 c1 c2
    have c0 := bP3.cell 0 rfl
    have c1 := bP3.cell 1 rfl
    have c2 := bP3.cell 2 rfl
    go_wp2_with fail
    refine (hT2.out _).mono ?_
    rintro e w4 ⟨rfl, hb4⟩
    have hB4 := hB3.trans (hb4.mono hB3.size)
    clear bP3 hB3 hb4 c0 c1 c2
    go_wp2
    go_ret
    exact ⟨rfl, hB4⟩
end Go.Proofs.Ytbfldhmpgealpaa
