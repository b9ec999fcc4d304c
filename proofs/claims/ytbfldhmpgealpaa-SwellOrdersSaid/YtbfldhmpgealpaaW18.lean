/- Plain laws: a stop more, or a stage more, makes nothing softer. No walk. Conditions: right tables. -/
import Derived.Test.YtbfldhmpgealpaaW13
import Derived.Laws.BitsAllLaws
namespace Go.Proofs.Ytbfldhmpgealpaa
open Go.RowKit

theorem bitB_nat (z k : Nat) (hz : z < 18446744073709551616) : bitB (z : Int) k = z.testBit k := by
  unfold bitB
  have h1 : ((z : Int) / 2 ^ k) = ((z / 2 ^ k : Nat) : Int) := by simp
  have h2 : z / 2 ^ k < 18446744073709551616 := Nat.lt_of_le_of_lt (Nat.div_le_self _ _) hz
  rw [h1, show (1 : Int) = ((1 : Nat) : Int) from rfl, u64_and_nat _ _ h2 (by omega), Nat.and_one_is_mod, Nat.testBit_eq_decide_div_mod_eq]
  rcases Nat.mod_two_eq_zero_or_one (z / 2 ^ k) with h | h <;> rw [h] <;> rfl
theorem orBit (z k : Nat) (hz : z < 18446744073709551616) (hk : k < 64) : bits .or .u64 (z : Int) ((2 ^ k : Nat) : Int) = ((z ||| 2 ^ k : Nat) : Int) :=
  u64_or_nat _ _ hz (by have := Nat.pow_lt_pow_right (a := 2) (by omega) hk; omega)
theorem or_bound {z k n : Nat} (hz : z < 2 ^ n) (hk : k < n) : z ||| 2 ^ k < 2 ^ n := Nat.or_lt_two_pow hz (Nat.pow_lt_pow_right (by omega) hk)

theorem drawS_more {xs : List Int} (h : ∀ i, 0 ≤ nth xs i ∧ nth xs i ≤ 1000000) (z j : Nat) (hz : z < 18446744073709551616) (hz' : (z ||| 2 ^ j) < 18446744073709551616) : ∀ k : Nat, drawS xs z k ≤ drawS xs ((z ||| 2 ^ j : Nat) : Int) k
  | 0 => Int.le_refl _
  | k + 1 => by
    have ih := drawS_more h z j hz hz' k
    have hk := h k
    unfold drawS
    rw [bitB_nat z k hz, bitB_nat _ k hz', Nat.testBit_or]
    cases z.testBit k <;> cases (2 ^ j).testBit k <;> simp <;> omega

theorem nth_set {xs : List Int} {i : Nat} (hi : i < xs.length) (z : Int) (j : Nat) : nth (xs.set i z) j = if j = i then z else nth xs j := by
  unfold nth
  rw [List.getElem?_set]
  by_cases h : i = j
  · subst h; simp [hi]
  · rw [if_neg h, if_neg (fun e => h e.symm)]

theorem fitS_step {T : Tab} {rs : List Int} {k : Nat} (h : k < rs.length) (h0 : fitS T rs k = 0) : nth rs k / 2 ^ (nths T.s k).length = 0 ∧ fitS T rs (k + 1) = 0 := by
  by_cases h1 : nth rs k / 2 ^ (nths T.s k).length = 0
  · exact ⟨h1, by rw [← fitS_next h h1]; exact h0⟩
  · rw [fitS_bad h h1] at h0; cases h0
theorem fitS_all {T : Tab} {rs : List Int} (h0 : fitS T rs 0 = 0) : ∀ k, k ≤ rs.length → fitS T rs k = 0
  | 0, _ => h0
  | k + 1, h => (fitS_step (by omega) (fitS_all h0 k (by omega))).2
theorem fitS_zero {T : Tab} {rs : List Int} (h : ∀ k, k < rs.length → nth rs k / 2 ^ (nths T.s k).length = 0) : ∀ r k, r = rs.length - k → fitS T rs k = 0
  | 0, k, hr => fitS_end (by omega)
  | r + 1, k, hr => by rw [fitS_next (by omega) (h k (by omega))]; exact fitS_zero h r (k + 1) (by omega)
theorem fit_iff {T : Tab} {rs : List Int} : fitF T rs = 0 ↔ rs.length = T.s.length ∧ ∀ k, k < rs.length → nth rs k / 2 ^ (nths T.s k).length = 0 := by
  unfold fitF
  constructor
  · intro h
    split at h
    · cases h
    · rename_i h1
      exact ⟨by simpa using h1, fun k hk => (fitS_step hk (fitS_all h k (by omega))).1⟩
  · rintro ⟨h1, h2⟩
    rw [if_neg (by simpa using h1)]
    exact fitS_zero h2 _ 0 rfl
theorem stgS_zero {T : Tab} {l : List Int} (h : ∀ k, k < l.length → 0 ≤ nth l k ∧ nth l k ≤ max 0 (((nths T.b k).length : Int) - 1)) : ∀ r k, r = l.length - k → stgS T l k = 0
  | 0, k, hr => stgS_end (by omega)
  | r + 1, k, hr => by rw [stgS_next (by omega) (h k (by omega))]; exact stgS_zero h r (k + 1) (by omega)
theorem stg_iff {T : Tab} {l : List Int} : stgF T l = 0 ↔ l.length = T.s.length ∧ ∀ k, k < l.length → 0 ≤ nth l k ∧ nth l k ≤ max 0 (((nths T.b k).length : Int) - 1) := by
  unfold stgF
  constructor
  · intro h
    split at h
    · cases h
    · rename_i h1
      exact ⟨by simpa using h1, fun k hk => (stgS_step hk (stgS_all h k (by omega))).1⟩
  · rintro ⟨h1, h2⟩
    rw [if_neg (by simpa using h1)]
    exact stgS_zero h2 _ 0 rfl

theorem loudF_le {T : Tab} {rs rs' : List Int} {st st' : Nat → Int} : ∀ n : Nat, (∀ i, i < n → divF T rs st i ≤ divF T rs' st' i) → loudF T rs st n ≤ loudF T rs' st' n
  | 0, _ => Int.le_refl _
  | n + 1, h => by
    have h1 := loudF_le n (fun i hi => h i (by omega))
    have h2 := h n (by omega)
    unfold loudF
    omega

/-- one stop more -/
def moreR (rs : List Int) (i k : Nat) : List Int := rs.set i (((nth rs i).toNat ||| 2 ^ k : Nat) : Int)
theorem moreR_len (rs : List Int) (i k : Nat) : (moreR rs i k).length = rs.length := by simp [moreR]
theorem more_ok {T : Tab} {rs l : List Int} (hT : tabF T = 0) (hf : fitF T rs = 0) (hg : stgF T l = 0) (hw : ∀ i, 0 ≤ nth rs i ∧ nth rs i ≤ 18446744073709551615) {i k : Nat} (hi : i < T.s.length) (hk : k < (nths T.s i).length) :
    ∃ X, LoudF T (moreR rs i k) l = (X, 0) ∧ loudF T rs (nth l) T.s.length ≤ X := by
  have hok := tabOk_of hT
  have h60 := hok.len i hi
  obtain ⟨h1, h2⟩ := fit_iff.1 hf
  obtain ⟨h3, h4⟩ := stOk_of hg
  obtain ⟨z, hz⟩ := Int.eq_ofNat_of_zero_le (hw i).1
  have hzb : z < 18446744073709551616 := by have := (hw i).2; omega
  have hzn : z < 2 ^ (nths T.s i).length := by
    have h5 := h2 i (by omega)
    rw [hz] at h5
    have h6 : ((z : Int) / 2 ^ (nths T.s i).length) = ((z / 2 ^ (nths T.s i).length : Nat) : Int) := by simp
    rw [h6] at h5
    have h7 : z / 2 ^ (nths T.s i).length = 0 := by omega
    rcases Nat.lt_or_ge z (2 ^ (nths T.s i).length) with h8 | h8
    · exact h8
    · have := Nat.div_pos h8 (Nat.two_pow_pos _)
      omega
  have hor := or_bound hzn hk
  have hor2 : (z ||| 2 ^ k) < 18446744073709551616 := by
    have := Nat.pow_le_pow_right (n := 2) (by omega) h60
    omega
  have hn : ∀ j, nth (moreR rs i k) j = if j = i then ((z ||| 2 ^ k : Nat) : Int) else nth rs j := fun j => by
    unfold moreR
    rw [nth_set (by omega), hz, Int.toNat_natCast]
  have hf2 : fitF T (moreR rs i k) = 0 := by
    refine fit_iff.2 ⟨by rw [moreR_len]; exact h1, fun j hj => ?_⟩
    rw [moreR_len] at hj
    rw [hn]
    by_cases hji : j = i
    · subst hji
      rw [if_pos rfl]
      have h6 : (((z ||| 2 ^ k : Nat) : Int) / 2 ^ (nths T.s j).length) = (((z ||| 2 ^ k) / 2 ^ (nths T.s j).length : Nat) : Int) := by simp
      rw [h6, Nat.div_eq_of_lt hor]
      rfl
    · rw [if_neg hji]
      exact h2 j hj
  refine ⟨loudF T (moreR rs i k) (nth l) T.s.length, ?_, loudF_le _ (fun j hj => ?_)⟩
  · unfold LoudF
    rw [hT, hf2, hg, if_neg (by simp), if_neg (by simp), if_neg (by simp)]
  · have hv := fun q => hok.val j q hj
    have hd : drawS (nths T.s j) (nth rs j) (nths T.s j).length ≤ drawS (nths T.s j) (nth (moreR rs i k) j) (nths T.s j).length := by
      rw [hn]
      by_cases hji : j = i
      · subst hji
        rw [if_pos rfl, hz]
        exact drawS_more hv z k hzb hor2 _
      · rw [if_neg hji]
        exact Int.le_refl _
    unfold divF
    split
    · exact hd
    · rename_i hb
      have hx := ((hok.box j hj).resolve_left hb).r (nth l j).toNat (by have := (h4 j hj).resolve_left hb; omega)
      exact Int.ediv_le_ediv (by omega) (Int.mul_le_mul_of_nonneg_right hd hx.1)

/-- a box opened by one stage -/
def wideL (T : Tab) (l : List Int) (i : Nat) : List Int := l.set i (min (nth l i + 1) (max 0 (((nths T.b i).length : Int) - 1)))
theorem wideL_len (T : Tab) (l : List Int) (i : Nat) : (wideL T l i).length = l.length := by simp [wideL]
theorem wide_ok {T : Tab} {rs l : List Int} (hT : tabF T = 0) (hf : fitF T rs = 0) (hg : stgF T l = 0) {i : Nat} (hi : i < T.s.length) :
    ∃ X, LoudF T rs (wideL T l i) = (X, 0) ∧ loudF T rs (nth l) T.s.length ≤ X := by
  have hok := tabOk_of hT
  obtain ⟨h3, h4⟩ := stOk_of hg
  obtain ⟨_, h5⟩ := stg_iff.1 hg
  have hn : ∀ j, nth (wideL T l i) j = if j = i then min (nth l i + 1) (max 0 (((nths T.b i).length : Int) - 1)) else nth l j := fun j => by
    unfold wideL
    rw [nth_set (by omega)]
  have hg2 : stgF T (wideL T l i) = 0 := by
    refine stg_iff.2 ⟨by rw [wideL_len]; exact h3, fun j hj => ?_⟩
    rw [wideL_len] at hj
    rw [hn]
    have := h5 j hj
    by_cases hji : j = i
    · subst hji
      rw [if_pos rfl]
      omega
    · rw [if_neg hji]
      exact this
  refine ⟨loudF T rs (nth (wideL T l i)) T.s.length, ?_, loudF_le _ (fun j hj => ?_)⟩
  · unfold LoudF
    rw [hT, hf, hg2, if_neg (by simp), if_neg (by simp), if_neg (by simp)]
  · have hv := fun q => hok.val j q hj
    have hd := (drawS_bd (z := nth rs j) hv (nths T.s j).length).1
    unfold divF
    split
    · exact Int.le_refl _
    · rename_i hb
      have h6 := (h4 j hj).resolve_left hb
      have h7 := (hok.box j hj).resolve_left hb
      refine Int.ediv_le_ediv (by omega) (Int.mul_le_mul_of_nonneg_left ?_ hd)
      rw [hn]
      by_cases hji : j = i
      · subst hji
        rw [if_pos rfl]
        by_cases hlast : nth l j + 1 < (nths T.b j).length
        · have e : (min (nth l j + 1) (max 0 (((nths T.b j).length : Int) - 1))).toNat = (nth l j).toNat + 1 := by omega
          rw [e]
          exact h7.o _ (by omega)
        · have e : (min (nth l j + 1) (max 0 (((nths T.b j).length : Int) - 1))).toNat = (nth l j).toNat := by omega
          rw [e]
          exact Int.le_refl _
      · rw [if_neg hji]
        exact Int.le_refl _
end Go.Proofs.Ytbfldhmpgealpaa
