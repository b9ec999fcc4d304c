/- The tight pairs of potentials, as a list. No walk. Conditions: none. -/
import Derived.Test.YtoendfpfnfeccaaP8
namespace Go.Proofs.Ytoendfpfnfeccaa

def tgB (css : List (List Int)) (rows ls : List Int) (i k : Nat) : Bool := nth rows i + nth ls k == cF css i k
/-- the tight pairs of row i below column k -/
def tgRow (css : List (List Int)) (rows ls : List Int) (i : Nat) : Nat → List (Nat × Nat)
  | 0 => []
  | k + 1 => tgRow css rows ls i k ++ (if tgB css rows ls i k = true then [(i, k)] else [])
/-- the tight pairs of the rows below i -/
def tgAll (css : List (List Int)) (rows ls : List Int) : Nat → List (Nat × Nat)
  | 0 => []
  | i + 1 => tgAll css rows ls i ++ tgRow css rows ls i ls.length
section
variable {css : List (List Int)} {rows ls : List Int} {i k n : Nat}
theorem tgRow_hit (h : tgB css rows ls i k = true) : tgRow css rows ls i (k + 1) = tgRow css rows ls i k ++ [(i, k)] := by rw [tgRow, if_pos h]
theorem tgRow_miss (h : tgB css rows ls i k = false) : tgRow css rows ls i (k + 1) = tgRow css rows ls i k := by rw [tgRow, if_neg (by simp [h]), List.append_nil]
theorem tgRow_pre : ∀ {m k : Nat}, k ≤ m → ∃ r, tgRow css rows ls i m = tgRow css rows ls i k ++ r
  | 0, k, h => ⟨[], by obtain rfl : k = 0 := by omega
                       simp⟩
  | m + 1, k, h => by
    rcases Nat.lt_or_ge m k with h1 | h1
    · obtain rfl : k = m + 1 := by omega
      exact ⟨[], by simp⟩
    · obtain ⟨r, hr⟩ := tgRow_pre (m := m) h1
      exact ⟨r ++ (if tgB css rows ls i m = true then [(i, m)] else []), by rw [tgRow, hr, List.append_assoc]⟩
theorem tgAll_pre : ∀ {n i : Nat}, i ≤ n → ∃ r, tgAll css rows ls n = tgAll css rows ls i ++ r
  | 0, i, h => ⟨[], by obtain rfl : i = 0 := by omega
                       simp⟩
  | n + 1, i, h => by
    rcases Nat.lt_or_ge n i with h1 | h1
    · obtain rfl : i = n + 1 := by omega
      exact ⟨[], by simp⟩
    · obtain ⟨r, hr⟩ := tgAll_pre (n := n) h1
      exact ⟨r ++ tgRow css rows ls n ls.length, by rw [tgAll, hr, List.append_assoc]⟩
/-- where a tight pair stands -/
theorem tg_at (hi : i < n) (hk : k < ls.length) (h : tgB css rows ls i k = true) :
    (tgAll css rows ls n)[(tgAll css rows ls i).length + (tgRow css rows ls i k).length]? = some (i, k) := by
  obtain ⟨r, hr⟩ := tgAll_pre (css := css) (rows := rows) (ls := ls) (n := n) (i := i + 1) hi
  obtain ⟨s, hs⟩ := tgRow_pre (css := css) (rows := rows) (ls := ls) (i := i) (m := ls.length) (k := k + 1) hk
  rw [hr, tgAll, hs, tgRow_hit h]
  simp
theorem tgRow_len : ∀ k : Nat, (tgRow css rows ls i k).length ≤ k
  | 0 => Nat.le_refl _
  | k + 1 => by
    have := tgRow_len k
    rw [tgRow, List.length_append]
    split <;> simp <;> omega
theorem tgAll_len : ∀ n : Nat, (tgAll css rows ls n).length ≤ n * ls.length
  | 0 => by simp [tgAll]
  | n + 1 => by
    have h1 := tgAll_len n
    have h2 := tgRow_len (css := css) (rows := rows) (ls := ls) (i := n) ls.length
    rw [tgAll, List.length_append, Nat.succ_mul]
    omega
end
theorem tgAll_bd {css : List (List Int)} {rows ls : List Int} {n : Nat} (hn : n ≤ 60) (hl : ls.length ≤ 120) : (tgAll css rows ls n).length ≤ 7200 :=
  Nat.le_trans (tgAll_len n) (Nat.le_trans (Nat.mul_le_mul_right _ hn) (Nat.mul_le_mul_left 60 hl))
end Go.Proofs.Ytoendfpfnfeccaa
