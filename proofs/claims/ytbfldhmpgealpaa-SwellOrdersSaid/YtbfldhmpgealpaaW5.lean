/- Contracts of the model's check of movements, of after and toward. Conditions: at most 2^40 levels and movements; numbers in the ranges that each theorem names. -/
import Derived.Test.YtbfldhmpgealpaaW4
namespace Go.Proofs.Ytbfldhmpgealpaa
open Go.RowKit

set_option maxHeartbeats 4000000 in
theorem moves_any (v : Value) (ls : List Int) (v2 : Value) (l : List Mv) (w : World) (hv : NumSl .i64 w v ls) (hm : ls.length ≤ 1099511627776) (hv2 : MvSl w v2 l) (hm2 : l.length ≤ 1099511627776) :
    Calls Try.prog 31 #[.agg #[v], v2] w fun e w' => e = .returned (.int .i64 (movesF ls.length l)) ∧ Below w.heap.size w w' := by
  have hB := (Below.refl w.heap.size w).alloc (Nat.le_refl _) (.cells #[v] 49)
  have bP := BoxC.new w 49 #[v]
  have hm1 := hv2.mono hB
  obtain ⟨a, cap, rfl⟩ := hv.len
  obtain ⟨a2, cap2, rfl⟩ := hv2.len
  clear hv hv2
  obtain ⟨F, hF⟩ : ∃ F, movesF ls.length l = F := ⟨_, rfl⟩
  rw [hF]
  unfold movesF at hF
  by_cases h1 : 1000 < l.length
  · rw [if_pos h1] at hF
    replace hF := Lib.hid hF
    go_enter Try.func31, Try.ntmps31
    go_wp2
    go_ret
    exact ⟨ret_int hF.out, hB⟩
  · rw [if_neg h1] at hF
    replace hF := Lib.hid hF
    go_enter Try.func31, Try.ntmps31
    go_wp2
    generalize hW : w.alloc (.cells #[.slice a ls.length cap] 49) = W at hB bP hm1 ⊢
    clear hW
    go_loopw [5] (fun i wr => ∃ k : Nat, k ≤ l.length ∧ i = .int .i64 k ∧ Hid (mvS ls.length l k = F) ∧ Below W.heap.size W wr) (fun i _ => l.length - (intOf i).toNat)
    case atStart => exact ⟨0, Nat.zero_le _, rfl, hF, Below.refl _ _⟩
    case round =>
      obtain ⟨k, hk, rfl, hFk, hBr⟩ := hrel
      by_cases hlt : k < l.length
      · have hxm := hm1.mono hBr
        obtain ⟨b, off, cap', he, hc⟩ := hxm.at hlt
        cases he
        obtain ⟨c1, c2, c3⟩ := hc k hlt
        have hBm := (Below.refl wr.heap.size wr).alloc (Nat.le_refl _) (.cells #[.int .i64 (mv l k).t, .int .i64 (mv l k).s, .int .i64 (mv l k).p] 64)
        have hBA := hBr.trans (hBm.mono hBr.size)
        have hBW := hB.trans (hBA.mono hB.size)
        have cA := fun i hi => (hBm.cell (p := ⟨b, off + i * 3, none⟩) (lt_of_cell (hc i hi).1)).trans (hc i hi).1
        have c0 := ((bP.grown hBr).grown hBm).cell 0 rfl
        by_cases hr : MvR ls.length (mv l k)
        · have hnx := mvS_next hlt hr
          have hod := mvS_order hlt hr
          obtain ⟨⟨r1, r1'⟩, ⟨r2, r2'⟩, r3, r3'⟩ := hr
          by_cases hk0 : 0 < k
          · have c4 := cA (k - 1) (by omega)
            replace hod := hod hk0
            have hd : decide (0 < k) = true := by simpa using hk0
            have hd2 : (((k : Int) - 1).toNat) = k - 1 := by omega
            clear hc cA bP hm1 hxm hB hBr
            generalize (mv l (k - 1)).t = t' at c4 hnx hod
            generalize mv l k = m at *
            obtain ⟨t, s, p⟩ := m
            simp only at c1 c2 c3 hBA hBW c4 c0 hnx hod r1 r2 r3 r1' r2' r3'
            by_cases hxy : t ≤ t'
            · replace hod := Lib.hid (hod hxy); clear hnx
              go_wp2_with fail
              go_quiet (fail)
              go_wp2
              go_ret
              exact ⟨ret_int (hod.out.symm.trans hFk.out), below_drewN hBW _⟩
            · replace hnx := Lib.hid (hnx (.inr (by omega))); clear hod
              have hxy2 : decide (t ≤ t') = false := by simpa using hxy
              go_wp2_with fail
              go_quiet (fail)
              go_wp2
              go_roundw
              case rel => exact ⟨k + 1, by omega, by go_num, hnx.out.symm.trans hFk.out, below_drewN hBA _⟩
              case measure => simp [intOf]; omega
          · have hd : decide (0 < k) = false := by simpa using hk0
            replace hnx := Lib.hid (hnx (.inl (by omega)))
            clear hc cA bP hm1 hxm hB hBr hod
            generalize mv l k = m at *
            obtain ⟨t, s, p⟩ := m
            simp only at c1 c2 c3 hBA hBW c0 r1 r2 r3 r1' r2' r3'
            go_wp2_with fail
            go_quiet (fail)
            go_wp2
            go_roundw
            case rel => exact ⟨k + 1, by omega, by go_num, hnx.out.symm.trans hFk.out, below_drewN hBA _⟩
            case measure => simp [intOf]; omega
        · have hrg := Lib.hid (mvS_range hlt hr)
          clear hc cA bP hm1 hxm hB hBr
          generalize mv l k = m at *
          obtain ⟨t, s, p⟩ := m
          unfold MvR at hr
          simp only at c1 c2 c3 hBA hBW c0 hr
          have h7 : t < 0 ∨ (0 ≤ t ∧ 1000000000 < t) ∨ (0 ≤ t ∧ t ≤ 1000000000 ∧ s < 0) ∨ (0 ≤ t ∧ t ≤ 1000000000 ∧ 0 ≤ s ∧ (ls.length : Int) ≤ s) ∨
            (0 ≤ t ∧ t ≤ 1000000000 ∧ 0 ≤ s ∧ s < (ls.length : Int) ∧ p < 1) ∨ (0 ≤ t ∧ t ≤ 1000000000 ∧ 0 ≤ s ∧ s < (ls.length : Int) ∧ 1 ≤ p ∧ 10000 < p) := by omega
          clear hr
          rcases h7 with g1 | ⟨g1, g2⟩ | ⟨g1, g2, g3⟩ | ⟨g1, g2, g3, g4⟩ | ⟨g1, g2, g3, g4, g5⟩ | ⟨g1, g2, g3, g4, g5, g6⟩
          all_goals
            go_wp2
            go_ret
            exact ⟨ret_int (hrg.out.symm.trans hFk.out), hBW⟩
      · have hen := Lib.hid (mvS_end (n := ls.length) (l := l) (k := k) (by omega))
        go_wp2
        go_ret
        exact ⟨ret_int (hen.out.symm.trans hFk.out), hB.trans (hBr.mono hB.size)⟩

/-- the stage that a movement reaches at a tick, from a stage on -/
def afterF (m : Mv) (st tick : Int) : Int := if st ≤ m.s then min m.s (st + (tick - m.t) / m.p) else max m.s (st - (tick - m.t) / m.p)

theorem div_bd {a p : Int} (h0 : 0 ≤ a) (hp : 1 ≤ p) : 0 ≤ a / p ∧ a / p ≤ a := ⟨Int.ediv_nonneg h0 (by omega), Int.ediv_le_self _ h0⟩

theorem afterF_bd {m : Mv} {st tick : Int} (ht : m.t ≤ tick) (hp : 1 ≤ m.p) {B : Int} (h1 : 0 ≤ st) (h2 : st ≤ B) (h3 : 0 ≤ m.s) (h4 : m.s ≤ B) : 0 ≤ afterF m st tick ∧ afterF m st tick ≤ B := by
  have := div_bd (a := tick - m.t) (p := m.p) (by omega) hp
  unfold afterF
  split <;> omega

set_option maxHeartbeats 1000000 in
theorem after_any (t s p st tick : Int) (w : World) (h1 : 0 ≤ t) (h2 : t ≤ tick) (h3 : tick ≤ 2000000000) (h4 : 1 ≤ p) (h5 : p ≤ 10000) (h6 : 0 ≤ s) (h7 : s ≤ 1000) (h8 : 0 ≤ st) (h9 : st ≤ 1000) :
    Calls Try.prog 48 #[.agg #[.int .i64 t, .int .i64 s, .int .i64 p], .int .i64 st, .int .i64 tick] w fun e w' => e = .returned (.int .i64 (afterF ⟨t, s, p⟩ st tick)) ∧ Below w.heap.size w w' := by
  have hB := (Below.refl w.heap.size w).alloc (Nat.le_refl _) (.cells #[.int .i64 t, .int .i64 s, .int .i64 p] 64)
  have hd := div_bd (a := tick - t) (p := p) (by omega) h4
  obtain ⟨hd1, hd2⟩ := hd
  have hpz : (p == 0) = false := by simp; omega
  obtain ⟨F, hF⟩ : ∃ F, afterF ⟨t, s, p⟩ st tick = F := ⟨_, rfl⟩
  rw [hF]
  unfold afterF at hF
  simp only at hF
  by_cases hs : st ≤ s
  · rw [if_pos hs] at hF
    replace hF := Lib.hid hF
    go_enter Try.func48, Try.ntmps48
    go_wp2
    all_goals
      go_ret
      exact ⟨ret_int (by rw [← hF.out]; omega), hB⟩
  · rw [if_neg hs] at hF
    replace hF := Lib.hid hF
    go_enter Try.func48, Try.ntmps48
    go_wp2
    all_goals
      go_ret
      exact ⟨ret_int (by rw [← hF.out]; omega), hB⟩

def towardF (m : Mv) (st n : Int) : Int := if m.s < st then st - min (n / m.p) (absI (m.s - st)) else st + min (n / m.p) (absI (m.s - st))
theorem toward_after {m : Mv} {st tick : Int} (hp : 1 ≤ m.p) (ht : m.t ≤ tick) : towardF m st (tick - m.t) = afterF m st tick := by
  have := div_bd (a := tick - m.t) (p := m.p) (by omega) hp
  unfold towardF afterF absI
  generalize (tick - m.t) / m.p = q at this
  split <;> split <;> omega

set_option maxHeartbeats 1000000 in
theorem toward_any (t s p st n : Int) (w : World) (h2 : 0 ≤ n) (h3 : n ≤ 2000000000) (h4 : 1 ≤ p) (h5 : p ≤ 10000) (h6 : 0 ≤ s) (h7 : s ≤ 1000) (h8 : 0 ≤ st) (h9 : st ≤ 1000) :
    Calls Try.prog 49 #[.agg #[.int .i64 t, .int .i64 s, .int .i64 p], .int .i64 st, .int .i64 n] w fun e w' => e = .returned (.int .i64 (towardF ⟨t, s, p⟩ st n)) ∧ Below w.heap.size w w' := by
  have hB := (Below.refl w.heap.size w).alloc (Nat.le_refl _) (.cells #[.int .i64 t, .int .i64 s, .int .i64 p] 64)
  have hd := div_bd (a := n) (p := p) h2 h4
  obtain ⟨hd1, hd2⟩ := hd
  have hpz : (p == 0) = false := by simp; omega
  have hab := @absI_bd (s - st)
  obtain ⟨ha1, ha2, ha3, ha4⟩ := hab
  obtain ⟨F, hF⟩ : ∃ F, towardF ⟨t, s, p⟩ st n = F := ⟨_, rfl⟩
  rw [hF]
  unfold towardF at hF
  simp only at hF
  have hq : IntKind.i64.wrap (n.tdiv p) = n / p := by
    rw [Int.tdiv_eq_ediv_of_nonneg h2]
    exact IntWalk.i64_in _ (by omega)
  by_cases hs : s < st
  · rw [if_pos hs] at hF
    replace hF := Lib.hid hF
    replace ha4 := Lib.hid ha4
    go_enter Try.func49, Try.ntmps49
    go_wp2_with fail
    go_quiet ((go_at_call 29; exact quiet_left (distance_any _ _ _ (by omega) (by omega) (by omega) (by omega))))
    all_goals
      go_wp2
      all_goals
        go_ret
        exact ⟨ret_int (by rw [← hF.out]; simp; have := ha4.out; omega), below_drewN hB _⟩
  · rw [if_neg hs] at hF
    replace hF := Lib.hid hF
    replace ha4 := Lib.hid ha4
    go_enter Try.func49, Try.ntmps49
    go_wp2_with fail
    go_quiet ((go_at_call 29; exact quiet_left (distance_any _ _ _ (by omega) (by omega) (by omega) (by omega))))
    all_goals
      go_wp2
      all_goals
        go_ret
        exact ⟨ret_int (by rw [← hF.out]; simp; have := ha4.out; omega), below_drewN hB _⟩
end Go.Proofs.Ytbfldhmpgealpaa
