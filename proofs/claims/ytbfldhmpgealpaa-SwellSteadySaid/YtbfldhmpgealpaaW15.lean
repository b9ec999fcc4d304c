/- The contract of Sum, and the plain laws of sums of deviations. Conditions: none. -/
import Derived.Test.YtbfldhmpgealpaaW14
namespace Go.Proofs.Ytbfldhmpgealpaa
open Go.RowKit

/-- the sum of k deviations from a tick on -/
def sumTo (p d f a : Int) : Nat → Int
  | 0 => 0
  | k + 1 => sumTo p d f a k + shakeF p d f (a + k)
def SumF (p d f a b : Int) : Int × Int :=
  if tremF p d f ≠ 0 then (0, tremF p d f) else if ¬ (-1000000000 ≤ a ∧ a ≤ 1000000000) ∨ ¬ (-1000000000 ≤ b ∧ b ≤ 1000000000) then (0, 3)
  else if b < a then (0, 6) else (sumTo p d f a ((b - a) % p).toNat, 0)

theorem sumTo_bd {p d f a : Int} (h : TrOk p d f) : ∀ k : Nat, -((k : Int) * 1000000) ≤ sumTo p d f a k ∧ sumTo p d f a k ≤ k * 1000000
  | 0 => by simp [sumTo]
  | k + 1 => by
    have h1 := sumTo_bd (a := a) h k
    have h2 := shakeF_bd p d f (a + k) h
    have h3 := h.d1
    unfold sumTo
    omega
theorem sumTo_le {p d f a : Int} (h : TrOk p d f) : ∀ k : Nat, -((k : Int) * d) ≤ sumTo p d f a k ∧ sumTo p d f a k ≤ k * d
  | 0 => by simp [sumTo]
  | k + 1 => by
    have h1 := sumTo_le (a := a) h k
    have h2 := shakeF_bd p d f (a + k) h
    have e : ((k + 1 : Nat) : Int) * d = k * d + d := by rw [Int.natCast_add, Int.add_mul]; simp
    unfold sumTo
    rw [e]
    omega
theorem sumTo_add (p d f a : Int) (m : Nat) : ∀ n : Nat, sumTo p d f a (m + n) = sumTo p d f a m + sumTo p d f (a + m) n
  | 0 => by simp [sumTo]
  | n + 1 => by
    rw [← Nat.add_assoc]
    show sumTo p d f a (m + n) + shakeF p d f (a + ((m + n : Nat) : Int)) = sumTo p d f a m + (sumTo p d f (a + m) n + shakeF p d f (a + m + n))
    rw [sumTo_add p d f a m n, show a + ((m + n : Nat) : Int) = a + m + n by omega]
    omega
/-- half a period later the deviation is the opposite -/
theorem shakeF_half {p d f t : Int} (h : TrOk p d f) : shakeF p d f (t + p / 2) = - shakeF p d f t := by
  obtain ⟨p0, p1, p2, d0, d1, f0, f1⟩ := h
  unfold shakeF
  have hx0 := Int.emod_nonneg (t - f) (show p ≠ 0 by omega)
  have hx1 := Int.emod_lt_of_pos (t - f) (show 0 < p by omega)
  have hq := Int.mul_ediv_add_emod (t - f) p
  have hy : (t + p / 2 - f) % p = if (t - f) % p < p / 2 then (t - f) % p + p / 2 else (t - f) % p - p / 2 := by
    have e : t + p / 2 - f = ((t - f) % p + p / 2) + p * ((t - f) / p) := by omega
    rw [e, Int.add_mul_emod_self_left]
    split
    · exact Int.emod_eq_of_lt (by omega) (by omega)
    · rw [← Int.sub_emod_right, Int.emod_eq_of_lt (by omega) (by omega)]
      omega
  rw [hy]
  generalize (t - f) % p = x at hx0 hx1 ⊢
  rw [← Int.neg_tdiv, ← Int.mul_neg]
  congr 2
  unfold absI
  split <;> omega
theorem sumTo_shift {p d f a : Int} (h : TrOk p d f) : ∀ k : Nat, sumTo p d f (a + p / 2) k = - sumTo p d f a k
  | 0 => by simp [sumTo]
  | k + 1 => by
    unfold sumTo
    rw [sumTo_shift h k, show a + p / 2 + (k : Int) = a + k + p / 2 by omega, shakeF_half h]
    omega
theorem sumTo_period {p d f a : Int} (h : TrOk p d f) : sumTo p d f a p.toNat = 0 := by
  have p0 := h.p0
  have p2 := h.p2
  have e : p.toNat = (p / 2).toNat + (p / 2).toNat := by omega
  rw [e, sumTo_add, show a + ((p / 2).toNat : Int) = a + p / 2 by omega, sumTo_shift h]
  omega
theorem sumTo_more {p d f a : Int} (h : TrOk p d f) (n : Nat) : sumTo p d f a (n + p.toNat) = sumTo p d f a n := by
  rw [sumTo_add, sumTo_period h]
  omega
theorem sumTo_mod {p d f a : Int} (h : TrOk p d f) (n : Nat) : sumTo p d f a (n % p.toNat) = sumTo p d f a n := by
  have p0 := h.p0
  have hp : 0 < p.toNat := by omega
  induction n using Nat.strongRecOn with
  | _ n ih =>
    rcases Nat.lt_or_ge n p.toNat with h1 | h1
    · rw [Nat.mod_eq_of_lt h1]
    · rw [Nat.mod_eq_sub_mod h1, ih (n - p.toNat) (by omega)]
      have := sumTo_more (a := a) h (n - p.toNat)
      rw [Nat.sub_add_cancel h1] at this
      exact this.symm
theorem sumTo_emod {p d f a : Int} (h : TrOk p d f) {n : Int} (hn : 0 ≤ n) : sumTo p d f a (n % p).toNat = sumTo p d f a n.toNat := by
  have p0 := h.p0
  rw [← sumTo_mod h n.toNat]
  congr 1
  obtain ⟨k, rfl⟩ := Int.eq_ofNat_of_zero_le hn
  obtain ⟨q, rfl⟩ := Int.eq_ofNat_of_zero_le (show 0 ≤ p by omega)
  show ((k : Int) % (q : Int)).toNat = ((k : Int)).toNat % ((q : Int)).toNat
  rw [Int.toNat_natCast, Int.toNat_natCast, ← Int.natCast_emod, Int.toNat_natCast]

set_option maxHeartbeats 1000000 in
theorem Sum_any (p d f a b : Int) (w : World) :
    Calls Try.prog 36 #[trV p d f, .int .i64 a, .int .i64 b] w fun e w' => e = .returned (.tuple #[.int .i64 (SumF p d f a b).1, .int .i64 (SumF p d f a b).2]) ∧ Below w.heap.size w w' := by
  have hB := (Below.refl w.heap.size w).alloc (Nat.le_refl _) (.cells #[.int .i64 p, .int .i64 d, .int .i64 f] 23)
  have bP := BoxC.new w 23 #[.int .i64 p, .int .i64 d, .int .i64 f]
  obtain ⟨F, hF⟩ : ∃ F, SumF p d f a b = F := ⟨_, rfl⟩
  rw [hF]
  unfold SumF at hF
  have hck := CheckTremulant_any p d f (w.alloc (.cells #[.int .i64 p, .int .i64 d, .int .i64 f] 23))
  obtain ⟨q, hq⟩ : ∃ q, tremF p d f = q := ⟨_, rfl⟩
  rw [hq] at hF hck
  replace hck := Lib.hid hck
  by_cases h0 : q = 0
  · subst h0
    have hok := trOk_of hq
    clear hq
    rw [if_neg (by simp)] at hF
    by_cases h1 : -1000000000 ≤ a ∧ a ≤ 1000000000
    · have e1 := Lib.hid (betw_true h1)
      by_cases h2 : -1000000000 ≤ b ∧ b ≤ 1000000000
      · have e2 := Lib.hid (betw_true h2)
        rw [if_neg (by omega)] at hF
        by_cases h3 : b < a
        · rw [if_pos h3] at hF
          subst hF
          clear h1 h2
          go_enter Try.func36, Try.ntmps36
          go_wp2_with fail
          refine hck.out.mono ?_
          rintro e w1 ⟨rfl, hb⟩
          go_wp2_with (go_at_call 38; refine (within_any _ _ _ _).mono ?_; rintro e w' ⟨rfl, rfl⟩; first | rw [e1.out] | rw [e2.out])
          go_ret2
          exact ⟨rfl, hB.trans (hb.mono hB.size)⟩
        · rw [if_neg h3] at hF
          have p0 := hok.p0
          have p1 := hok.p1
          have hpz : (p == 0) = false := by simp; omega
          have hm0 := Int.emod_nonneg (b - a) (show p ≠ 0 by omega)
          have hm1 := Int.emod_lt_of_pos (b - a) (show 0 < p by omega)
          obtain ⟨K, hK⟩ := Int.eq_ofNat_of_zero_le hm0
          rw [hK, Int.toNat_natCast] at hF
          rw [hK] at hm1
          clear hm0
          replace hK := Lib.hid hK
          obtain ⟨a0, a1⟩ := h1
          obtain ⟨b0, b1⟩ := h2
          subst hF
          have hd3 : decide (b < a) = false := by simpa using h3
          go_enter Try.func36, Try.ntmps36
          go_wp2_with fail
          refine hck.out.mono ?_
          rintro e w1 ⟨rfl, hb⟩
          have bP1 := bP.grown hb
          have hB1 := hB.trans (hb.mono hB.size)
          clear bP hB hb hck
          have c0 := bP1.cell 0 rfl
          go_wp2_with (go_at_call 38; refine (within_any _ _ _ _).mono ?_; rintro e w' ⟨rfl, rfl⟩; first | rw [e1.out] | rw [e2.out])
          clear e1 e2
          rw [hK.out]
          go_loopw [9, 35] (fun s i wr => ∃ k : Nat, k ≤ K ∧ i = .int .i64 k ∧ s = .int .i64 (sumTo p d f a k) ∧ Below w1.heap.size w1 wr) (fun _ i _ => K - (intOf i).toNat)
          case atStart => exact ⟨0, Nat.zero_le _, rfl, rfl, Below.refl _ _⟩
          case round =>
            obtain ⟨k, hk, rfl, rfl, hBr⟩ := hrel
            by_cases hlt : k < K
            · have hsh := shake_any p d f (a + k) hok wr (by omega) (by omega)
              have hs1 := sumTo_bd (a := a) hok k
              have hs2 := shakeF_bd p d f (a + k) hok
              have hd1 := hok.d1
              have hsu : sumTo p d f a (k + 1) = sumTo p d f a k + shakeF p d f (a + k) := rfl
              have bPr := bP1.grown hBr
              have c0 := bPr.cell 0 rfl
              have c1 := bPr.cell 1 rfl
              have c2 := bPr.cell 2 rfl
              generalize sumTo p d f a k = S at hs1 hsu ⊢
              generalize shakeF p d f (a + k) = x at hsh hs2 hsu
              replace hsu := Lib.hid hsu; replace hsh := Lib.hid hsh
              clear bP1 bPr
              go_wp2_with fail
              refine hsh.out.mono ?_
              rintro e w2 ⟨rfl, hb2⟩
              go_wp2
              go_roundw
              case rel => exact ⟨k + 1, by omega, by go_num, by rw [hsu.out], hBr.trans (hb2.mono hBr.size)⟩
              case measure => simp [intOf]; omega
            · obtain rfl : k = K := by omega
              go_wp2
              go_ret2
              exact ⟨rfl, hB1.trans (hBr.mono hB1.size)⟩
      · have e2 := Lib.hid (betw_false h2)
        rw [if_pos (.inr h2)] at hF
        subst hF
        clear h1 h2
        go_enter Try.func36, Try.ntmps36
        go_wp2_with fail
        refine hck.out.mono ?_
        rintro e w1 ⟨rfl, hb⟩
        go_wp2_with (go_at_call 38; refine (within_any _ _ _ _).mono ?_; rintro e w' ⟨rfl, rfl⟩; first | rw [e1.out] | rw [e2.out])
        go_ret2
        exact ⟨rfl, hB.trans (hb.mono hB.size)⟩
    · have e1 := Lib.hid (betw_false h1)
      rw [if_pos (.inl h1)] at hF
      subst hF
      clear h1
      go_enter Try.func36, Try.ntmps36
      go_wp2_with fail
      refine hck.out.mono ?_
      rintro e w1 ⟨rfl, hb⟩
      go_wp2_with (go_at_call 38; refine (within_any _ _ _ _).mono ?_; rintro e w' ⟨rfl, rfl⟩; rw [e1.out])
      go_ret2
      exact ⟨rfl, hB.trans (hb.mono hB.size)⟩
  · obtain ⟨g1, g2⟩ := neq_of h0
    rw [if_pos h0] at hF
    subst hF
    clear hq h0
    go_enter Try.func36, Try.ntmps36
    go_wp2_with fail
    refine hck.out.mono ?_
    rintro e w1 ⟨rfl, hb⟩
    clear hck
    go_wp2
    go_ret2
    exact ⟨rfl, hB.trans (hb.mono hB.size)⟩
end Go.Proofs.Ytbfldhmpgealpaa
