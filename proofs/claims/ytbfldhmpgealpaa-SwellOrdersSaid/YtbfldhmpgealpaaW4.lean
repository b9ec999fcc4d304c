/- Contracts of both checks of movements. Conditions: at most 2^40 levels and movements. -/
import Derived.Test.YtbfldhmpgealpaaW3
namespace Go.Proofs.Ytbfldhmpgealpaa
open Go.RowKit

/-- a movement -/
structure Mv where
  t : Int
  s : Int
  p : Int
def mv (l : List Mv) (k : Nat) : Mv := l[k]?.getD ⟨0, 0, 0⟩
abbrev mvV (m : Mv) : Value := .agg #[.int .i64 m.t, .int .i64 m.s, .int .i64 m.p]
/-- v reads in w as the movements l -/
def MvSl (w : World) (v : Value) (l : List Mv) : Prop :=
  ((∃ a cap, v = .slice a 0 cap) ∧ l = []) ∨ ∃ b off cap, v = .slice (some ⟨b, off, none⟩) l.length cap ∧
    (∀ i, i < l.length → w.cell? ⟨b, off + i * 3, none⟩ = some (.int .i64 (mv l i).t) ∧ w.cell? ⟨b, off + i * 3 + 1, none⟩ = some (.int .i64 (mv l i).s) ∧ w.cell? ⟨b, off + i * 3 + 2, none⟩ = some (.int .i64 (mv l i).p)) ∧ l.length ≤ cap
theorem MvSl.len {w : World} {v : Value} {l : List Mv} (h : MvSl w v l) : ∃ a cap, v = .slice a l.length cap := by
  rcases h with ⟨⟨a, cap, rfl⟩, rfl⟩ | ⟨b, off, cap, rfl, _, _⟩
  · exact ⟨a, cap, rfl⟩
  · exact ⟨some ⟨b, off, none⟩, cap, rfl⟩
theorem MvSl.mono {w w' : World} {v : Value} {l : List Mv} (h : MvSl w v l) (hb : Below w.heap.size w w') : MvSl w' v l := by
  rcases h with h | ⟨b, off, cap, rfl, hc, hle⟩
  · exact .inl h
  · refine .inr ⟨b, off, cap, rfl, fun i hi => ?_, hle⟩
    obtain ⟨h1, h2, h3⟩ := hc i hi
    exact ⟨(hb.cell (p := ⟨b, _, none⟩) (lt_of_cell h1)).trans h1, (hb.cell (p := ⟨b, _, none⟩) (lt_of_cell h2)).trans h2, (hb.cell (p := ⟨b, _, none⟩) (lt_of_cell h3)).trans h3⟩
theorem MvSl.at {w : World} {v : Value} {l : List Mv} (h : MvSl w v l) {k : Nat} (hk : k < l.length) : ∃ b off cap, v = .slice (some ⟨b, off, none⟩) l.length cap ∧
    ∀ i, i < l.length → w.cell? ⟨b, off + i * 3, none⟩ = some (.int .i64 (mv l i).t) ∧ w.cell? ⟨b, off + i * 3 + 1, none⟩ = some (.int .i64 (mv l i).s) ∧ w.cell? ⟨b, off + i * 3 + 2, none⟩ = some (.int .i64 (mv l i).p) := by
  rcases h with ⟨_, rfl⟩ | ⟨b, off, cap, h1, h2, _⟩
  · simp at hk
  · exact ⟨b, off, cap, h1, h2⟩
theorem MvSl.cap {w : World} {a : Option Addr} {n cap : Nat} {l : List Mv} (h : MvSl w (.slice a n cap) l) : l = [] ∨ l.length ≤ cap := by
  rcases h with ⟨_, h⟩ | ⟨b, off, cap', h1, _, h3⟩
  · exact .inl h
  · cases h1; exact .inr h3

/-- the numbers of a movement are in range -/
def MvR (n : Int) (m : Mv) : Prop := (0 ≤ m.t ∧ m.t ≤ 1000000000) ∧ (0 ≤ m.s ∧ m.s ≤ n - 1) ∧ (1 ≤ m.p ∧ m.p ≤ 10000)
instance (n : Int) (m : Mv) : Decidable (MvR n m) := by unfold MvR; exact inferInstance
def mvB (n : Int) (l : List Mv) (k : Nat) (_ : Unit) : Int ⊕ Unit :=
  if ¬ MvR n (mv l k) then .inl 3 else if 0 < k ∧ (mv l k).t ≤ (mv l (k - 1)).t then .inl 6 else .inr ()
def mvS (n : Int) (l : List Mv) (k : Nat) : Int := scan l.length (mvB n l) (fun _ => 0) k ()
def movesF (n : Int) (l : List Mv) : Int := if 1000 < l.length then 4 else mvS n l 0
def cmF (ls : List Int) (l : List Mv) : Int := if chkF ls ≠ 0 then chkF ls else movesF ls.length l

theorem mvS_range {n : Int} {l : List Mv} {k : Nat} (h : k < l.length) (h1 : ¬ MvR n (mv l k)) : mvS n l k = 3 := scan_inl h (by unfold mvB; rw [if_pos h1])
theorem mvS_order {n : Int} {l : List Mv} {k : Nat} (h : k < l.length) (h1 : MvR n (mv l k)) (h2 : 0 < k) (h3 : (mv l k).t ≤ (mv l (k - 1)).t) : mvS n l k = 6 :=
  scan_inl h (by unfold mvB; rw [if_neg (by simpa using h1), if_pos ⟨h2, h3⟩])
theorem mvS_next {n : Int} {l : List Mv} {k : Nat} (h : k < l.length) (h1 : MvR n (mv l k)) (h2 : k = 0 ∨ (mv l (k - 1)).t < (mv l k).t) : mvS n l k = mvS n l (k + 1) :=
  scan_inr h (by unfold mvB; rw [if_neg (by simpa using h1), if_neg (by omega)])
theorem mvS_end {n : Int} {l : List Mv} {k : Nat} (h : l.length ≤ k) : mvS n l k = 0 := scan_ge h

set_option maxHeartbeats 4000000 in
theorem CheckMoves_any (v : Value) (ls : List Int) (v2 : Value) (l : List Mv) (w : World) (hv : NumSl .i64 w v ls) (hm : ls.length ≤ 1099511627776) (hv2 : MvSl w v2 l) (hm2 : l.length ≤ 1099511627776) :
    Calls Try.prog 34 #[.agg #[v], v2] w fun e w' => e = .returned (.int .i64 (cmF ls l)) ∧ Below w.heap.size w w' := by
  have hB := (Below.refl w.heap.size w).alloc (Nat.le_refl _) (.cells #[v] 49)
  have bP := BoxC.new w 49 #[v]
  have hv1 := hv.mono hB
  have hm1 := hv2.mono hB
  obtain ⟨a, cap, rfl⟩ := hv.len
  obtain ⟨a2, cap2, rfl⟩ := hv2.len
  clear hv hv2
  obtain ⟨F, hF⟩ : ∃ F, cmF ls l = F := ⟨_, rfl⟩
  rw [hF]
  unfold cmF movesF at hF
  have hck := Check_any _ ls _ hv1 (by omega)
  obtain ⟨d, hd⟩ : ∃ d, chkF ls = d := ⟨_, rfl⟩
  rw [hd] at hF hck
  replace hck := Lib.hid hck
  by_cases h0 : d = 0
  · subst h0
    have hok := boxOk_of hd
    have hl0 := hok.n0
    have hl1 := hok.n1
    clear hd hok
    rw [if_neg (by simp)] at hF
    by_cases h1 : 1000 < l.length
    · rw [if_pos h1] at hF
      replace hF := Lib.hid hF
      go_enter Try.func34, Try.ntmps34
      go_wp2_with fail
      refine hck.out.mono ?_
      rintro e w1 ⟨rfl, hb⟩
      clear hv1 bP hm1
      go_wp2
      go_ret
      exact ⟨ret_int hF.out, hB.trans (hb.mono hB.size)⟩
    · rw [if_neg h1] at hF
      replace hF := Lib.hid hF
      go_enter Try.func34, Try.ntmps34
      go_wp2_with fail
      refine hck.out.mono ?_
      rintro e w1 ⟨rfl, hb⟩
      have hB1 := hB.trans (hb.mono hB.size)
      have bP1 := bP.grown hb
      have hm3 := hm1.mono hb
      clear hv1 bP hm1 hB hb hck
      go_wp2
      go_loopw [18] (fun i wr => ∃ k : Nat, k ≤ l.length ∧ i = .int .i64 k ∧ Hid (mvS ls.length l k = F) ∧ Below w1.heap.size w1 wr) (fun i _ => l.length - (intOf i).toNat)
      case atStart => exact ⟨0, Nat.zero_le _, rfl, hF, Below.refl _ _⟩
      case round =>
        obtain ⟨k, hk, rfl, hFk, hBr⟩ := hrel
        by_cases hlt : k < l.length
        · have hxm := hm3.mono hBr
          obtain ⟨b, off, cap', he, hc⟩ := hxm.at hlt
          cases he
          obtain ⟨c1, c2, c3⟩ := hc k hlt
          have hBm := (Below.refl wr.heap.size wr).alloc (Nat.le_refl _) (.cells #[.int .i64 (mv l k).t, .int .i64 (mv l k).s, .int .i64 (mv l k).p] 64)
          have hBA := hBr.trans (hBm.mono hBr.size)
          have hBW := hB1.trans (hBA.mono hB1.size)
          have cA := fun i hi => (hBm.cell (p := ⟨b, off + i * 3, none⟩) (lt_of_cell (hc i hi).1)).trans (hc i hi).1
          have c0 := ((bP1.grown hBr).grown hBm).cell 0 rfl
          by_cases hr : MvR ls.length (mv l k)
          · have hnx := mvS_next hlt hr
            have hod := mvS_order hlt hr
            obtain ⟨r1, r2, r3⟩ := hr
            have e1 := Lib.hid (betw_true r1); have e2 := Lib.hid (betw_true r2); have e3 := Lib.hid (betw_true r3)
            by_cases hk0 : 0 < k
            · have c4 := cA (k - 1) (by omega)
              replace hod := hod hk0
              have hd : decide (0 < k) = true := by simpa using hk0
              have hd2 : (((k : Int) - 1).toNat) = k - 1 := by omega
              clear hc cA bP1 hm3 hxm hB1 hBr
              generalize (mv l (k - 1)).t = t' at c4 hnx hod
              generalize mv l k = m at *
              obtain ⟨t, s, p⟩ := m
              simp only at c1 c2 c3 hBA hBW c4 c0 hnx hod r1 r2 r3 e1 e2 e3
              by_cases hxy : t ≤ t'
              · replace hod := Lib.hid (hod hxy); clear hnx
                go_wp2_with (go_at_call 38; refine (within_any _ _ _ _).mono ?_; rintro e w' ⟨rfl, rfl⟩; first | rw [e1.out] | rw [e2.out] | rw [e3.out])
                go_quiet (fail)
                go_wp2
                go_ret
                exact ⟨ret_int (hod.out.symm.trans hFk.out), below_drewN hBW _⟩
              · replace hnx := Lib.hid (hnx (.inr (by omega))); clear hod
                have hxy2 : decide (t ≤ t') = false := by simpa using hxy
                go_wp2_with (go_at_call 38; refine (within_any _ _ _ _).mono ?_; rintro e w' ⟨rfl, rfl⟩; first | rw [e1.out] | rw [e2.out] | rw [e3.out])
                go_quiet (fail)
                go_wp2
                go_roundw
                case rel => exact ⟨k + 1, by omega, by go_num, hnx.out.symm.trans hFk.out, below_drewN hBA _⟩
                case measure => simp [intOf]; omega
            · have hd : decide (0 < k) = false := by simpa using hk0
              replace hnx := Lib.hid (hnx (.inl (by omega)))
              clear hc cA bP1 hm3 hxm hB1 hBr hod
              generalize mv l k = m at *
              obtain ⟨t, s, p⟩ := m
              simp only at c1 c2 c3 hBA hBW c0 r1 r2 r3 e1 e2 e3
              go_wp2_with (go_at_call 38; refine (within_any _ _ _ _).mono ?_; rintro e w' ⟨rfl, rfl⟩; first | rw [e1.out] | rw [e2.out] | rw [e3.out])
              go_quiet (fail)
              go_wp2
              go_roundw
              case rel => exact ⟨k + 1, by omega, by go_num, hnx.out.symm.trans hFk.out, below_drewN hBA _⟩
              case measure => simp [intOf]; omega
          · have hrg := Lib.hid (mvS_range hlt hr)
            clear hc cA bP1 hm3 hxm hB1 hBr
            generalize mv l k = m at *
            obtain ⟨t, s, p⟩ := m
            unfold MvR at hr
            simp only at c1 c2 c3 hBA hBW c0 hr
            by_cases r1 : 0 ≤ t ∧ t ≤ 1000000000
            · have e1 := Lib.hid (betw_true r1)
              by_cases r2 : 0 ≤ s ∧ s ≤ (ls.length : Int) - 1
              · have e2 := Lib.hid (betw_true r2)
                have e3 := Lib.hid (betw_false (fun r3 => hr ⟨r1, r2, r3⟩) : betw p 1 10000 = false)
                clear r1 r2 hr
                go_wp2_with (go_at_call 38; refine (within_any _ _ _ _).mono ?_; rintro e w' ⟨rfl, rfl⟩; first | rw [e1.out] | rw [e2.out] | rw [e3.out])
                go_ret
                exact ⟨ret_int (hrg.out.symm.trans hFk.out), hBW⟩
              · have e2 := Lib.hid (betw_false r2)
                clear r1 r2 hr
                go_wp2_with (go_at_call 38; refine (within_any _ _ _ _).mono ?_; rintro e w' ⟨rfl, rfl⟩; first | rw [e1.out] | rw [e2.out])
                go_ret
                exact ⟨ret_int (hrg.out.symm.trans hFk.out), hBW⟩
            · have e1 := Lib.hid (betw_false r1)
              clear r1 hr
              go_wp2_with (go_at_call 38; refine (within_any _ _ _ _).mono ?_; rintro e w' ⟨rfl, rfl⟩; rw [e1.out])
              go_ret
              exact ⟨ret_int (hrg.out.symm.trans hFk.out), hBW⟩
        · have hen := Lib.hid (mvS_end (n := ls.length) (l := l) (k := k) (by omega))
          go_wp2
          go_ret
          exact ⟨ret_int (hen.out.symm.trans hFk.out), hB1.trans (hBr.mono hB1.size)⟩
  · obtain ⟨g1, g2⟩ := neq_of h0
    rw [if_pos h0] at hF
    subst hF
    clear hd h0
    go_enter Try.func34, Try.ntmps34
    go_wp2_with fail
    refine hck.out.mono ?_
    rintro e w1 ⟨rfl, hb⟩
    clear hv1 bP
    go_wp2
    go_ret
    exact ⟨rfl, hB.trans (hb.mono hB.size)⟩
end Go.Proofs.Ytbfldhmpgealpaa
