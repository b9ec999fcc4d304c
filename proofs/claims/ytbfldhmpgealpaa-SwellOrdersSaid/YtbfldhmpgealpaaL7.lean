/- The walk of SwellOrders. Conditions: lists of at most 2^63 elements. NOT WHOLE YET. -/
import Derived.Test.YtbfldhmpgealpaaW26
import Derived.Test.YtbfldhmpgealpaaW17
import Derived.Test.YtbfldhmpgealpaaW19
import Derived.Test.YtbfldhmpgealpaaL3
import Derived.IntWalk
import Derived.Deep.RegionHeld3
import Derived.BigQuiet
import Derived.Deep.QuietTactic
namespace Go.Proofs.Ytbfldhmpgealpaa
open Go Go.RowKit Go.Shelf

set_option maxRecDepth 100000 in
set_option maxHeartbeats 4000000 in
theorem law7_any (v u x : Value) (T : Tab) (ls : List Rg) (w : World) (hv : SlSl w v T.s) (hu : SlSl w u T.b) (hTs : T.s.length ≤ 9223372036854775807 ∧ ∀ k, (nths T.s k).length ≤ 9223372036854775807)
    (hTb : T.b.length ≤ 9223372036854775807 ∧ ∀ k, (nths T.b k).length ≤ 9223372036854775807) (hx : RgSl w x ls) (hrs : ls.length ≤ 9223372036854775807) :
    Calls Try.prog 7 #[tabV v u, x] w fun e w' => e = .returned (.bool true) ∧ Below w.heap.size w w' := by
  have hB := (Below.refl w.heap.size w).alloc (Nat.le_refl _) (.cells #[v, u] 35)
  have bP := BoxC.new w 35 #[v, u]
  obtain ⟨a, cap, rfl⟩ := hv.len
  obtain ⟨a2, cap2, rfl⟩ := hu.len
  obtain ⟨a3, cap3, rfl⟩ := hx.len
  have hsm := fun W (hb : Below w.heap.size w W) => small_any (.slice a T.s.length cap) (.slice a2 T.b.length cap2) T W (hv.mono hb) (hu.mono hb) hTs.1 hTb.1 hTs.2 hTb.2
  replace hsm := Lib.hid hsm
  obtain ⟨hTs1, hTs2⟩ := hTs
  obtain ⟨hTb1, hTb2⟩ := hTb
  replace hTs2 := Lib.hid hTs2; replace hTb2 := Lib.hid hTb2
  go_enter Try.func7, Try.ntmps7
  go_wp2_with fail
  refine (known_any _).mono ?_
  rintro e w1 ⟨rfl, hb1⟩
  have bP1 := bP.grown hb1
  have hB1 := hB.trans (hb1.mono hB.size)
  have c0 := bP1.cell 0 rfl
  have c1 := bP1.cell 1 rfl
  go_wp2_with fail
  refine (hsm.out _ hB1).mono ?_
  rintro e w2 ⟨sm, hsm2, rfl, hb2⟩
  have bP2 := bP1.grown hb2
  have hB2 := hB1.trans (hb2.mono hB1.size)
  clear bP bP1 hB hB1 hb1 hb2 c0 c1
  have c0 := bP2.cell 0 rfl
  have c1 := bP2.cell 1 rfl
  have hkn : ∀ (W : World), Calls Try.prog 12 #[] W (BoolBelow true W) := known_any
  cases sm
  · go_wp2_with fail
    refine (hkn _).mono ?_
    rintro e w3 ⟨rfl, hb3⟩
    go_wp2
    go_ret
    exact ⟨rfl, hB2.trans (hb3.mono hB2.size)⟩
  · have hS : Small T := hsm2.1 rfl
    have hT := hS.fit
    clear hsm2 hsm
    by_cases h10 : 6 < ls.length
    · have h10' : decide ((6 : Int) < (ls.length : Int)) = true := decide_eq_true (by omega)
      go_wp2_with fail
      refine (hkn _).mono ?_
      rintro e w3 ⟨rfl, hb3⟩
      go_wp2
      go_ret
      exact ⟨rfl, hB2.trans (hb3.mono hB2.size)⟩
    · have hn : ls.length ≤ 6 := by omega
      have hta := table_any (.slice a T.s.length cap) (.slice a2 T.b.length cap2) T w2 (hv.mono hB2) (hu.mono hB2) hT
      replace hta := Lib.hid hta
      go_wp2_with fail
      refine hta.out.mono ?_
      rintro e w3 ⟨rfl, hb3⟩
      have bP3 := bP2.grown hb3
      have hB3 := hB2.trans (hb3.mono hB2.size)
      clear bP2 hB2 hb3 c0 c1
      go_wp2_with fail
      go_loopw [5, 6] (fun e i W => ∃ k : Nat, k ≤ ls.length ∧ i = .int .i64 k ∧ e = .int .i64 (wantTo T ls k) ∧ BoxC W w.heap.size 35 #[.slice a T.s.length cap, .slice a2 T.b.length cap2] ∧ Below w.heap.size w W ∧ Hid (∀ j, j < k → (rgAt ls j).s.length ≤ 10)) (fun _ i _ => ls.length - (intOf i).toNat)
      case atStart => exact ⟨0, Nat.zero_le _, rfl, rfl, bP3, hB3, Lib.hid (fun j hj => by omega)⟩
      case round =>
        obtain ⟨k, hk, rfl, rfl, bX, hBX, hst⟩ := hrel
        have c0 := bX.cell 0 rfl
        have c1 := bX.cell 1 rfl
        by_cases hlt : k < ls.length
        · obtain ⟨bx, ox, cpx, hex, hcx⟩ := (hx.mono hBX).at hlt
          cases hex
          obtain ⟨st, d0, hsn, d1, d2⟩ := hcx k hlt
          obtain ⟨as1, cps, rfl⟩ := hsn.len
          clear hcx
          have hki : (k : Int) < (ls.length : Int) := by omega
          by_cases hs10 : 10 < (rgAt ls k).s.length
          · have hsi : decide ((10 : Int) < ((rgAt ls k).s.length : Int)) = true := decide_eq_true (by omega)
            go_wp2_with fail
            go_ret
            exact ⟨rfl, hBX⟩
          · have hst2 : ∀ j, j < k + 1 → (rgAt ls j).s.length ≤ 10 := fun j hj => by
              rcases Nat.lt_or_ge j k with h1 | h1
              · exact hst.out j h1
              · obtain rfl : j = k := by omega
                omega
            replace hst2 := Lib.hid hst2
            by_cases hw0 : wantTo T ls k = 0
            · have hwf : (wantTo T ls k == 0) = true := by simpa using hw0
              go_wp2_with fail
              go_still_tail 5, (by kernel_rfl)
              change wpList _ _ _ _ _ wr.drew
              have hwt : wantTo T ls (k + 1) = fitF T (rgAt ls k).s := by simp [wantTo, hw0]
              have hBd : Below w.heap.size w wr.drew := hBX.drew
              have hok : TabOk T := tabOk_of ((want_end T ls k (by omega)).1 hw0).1
              have hdr := drawn_any' (.slice a T.s.length cap) (.slice a2 T.b.length cap2) _ (rgAt ls k).c (rgAt ls k).o T (rgAt ls k).s wr.drew (hv.mono hBd) (hu.mono hBd) hT (hsn.mono (Below.refl _ _).drew) hok.len
              replace hdr := Lib.hid hdr
              replace hwt := Lib.hid hwt
              go_wp2_with fail
              refine hdr.out.mono ?_
              rintro e w4 ⟨rfl, hb4⟩
              have bX4 := bX.drew.grown hb4
              have hB4 := hBd.trans (hb4.mono hBd.size)
              go_wp2_with fail
              go_roundw
              case rel => exact ⟨k + 1, by omega, by go_num, by rw [hwt.out], bX4, hB4, hst2⟩
              case measure => simp [intOf]; omega
            · have hwt : wantTo T ls (k + 1) = wantTo T ls k := by simp [wantTo, hw0]
              have hwf : (wantTo T ls k == 0) = false := by simpa using hw0
              replace hwt := Lib.hid hwt
              go_wp2_with fail
              go_roundw
              case rel => exact ⟨k + 1, by omega, by go_num, by rw [hwt.out], bX, hBX, hst2⟩
              case measure => simp [intOf]; omega
        · obtain rfl : k = ls.length := by omega
          have hwe := want_eq T ls
          have hr : ∀ j, (rgAt ls j).s.length ≤ 100 := fun j => by
            rcases Nat.lt_or_ge j ls.length with h1 | h1
            · have := hst.out j h1; omega
            · unfold rgAt
              rw [List.getElem?_eq_none h1]
              simp
          have hor := order_any _ _ _ T ls wr (hv.mono hBX) (hu.mono hBX) hT (hx.mono hBX) (by omega) hr
          replace hor := Lib.hid hor
          replace hwe := Lib.hid hwe
          go_wp2_with fail
          refine hor.out.mono ?_
          rintro e w4 ⟨hb4, h4⟩
          have bX4 := bX.grown hb4
          have hB4 := hBX.trans (hb4.mono hBX.size)
          rcases h4 with ⟨h0, rfl⟩ | ⟨h0, vo, ys, rfl, hyo, hout⟩
          · have hwt : (wantTo T ls ls.length != 0) = true := by rw [hwe.out]; simpa using h0
            have hee : (ordF T ls == wantTo T ls ls.length) = true := by rw [hwe.out]; simp
            go_wp2
            go_ret
            exact ⟨rfl, hB4⟩
          · have hwz : wantTo T ls ls.length = 0 := by rw [hwe.out]; exact h0
            obtain ⟨htz, hfz⟩ := want_zero T ls _ hwz
            rw [hwz]
            have hyl := hout.len
            replace hout := Lib.hid hout
            obtain ⟨ao, co, rfl⟩ := hyo.lenV hyl
            replace hyl := Lib.hid hyl
            replace hfz := Lib.hid hfz
            have hok := tabOk_of htz
            have hkl := fun j => key_law T ls j hok.eq
            replace hkl := Lib.hid hkl
            clear hwe hwz h0 hor hr hst htz c0 c1
            have hn6 : ls.length ≤ 1000 := by omega
            have hmb : ∀ X : World, (Instr.makeSlice 57 (.int .i64 (ls.length : Int)) (.int .i64 (ls.length : Int))).run Try.prog X = .ok (rowS X.heap.size ls.length) (X.alloc (.cells (madeCells #[.bool false] ls.length) 4)) := run_make57 ls.length hn6
            have hR0 := rowB_new (base := w4.heap.size) (n := ls.length) (X := w4) hn6 (Nat.le_refl _)
            have hB0 := (Below.refl w4.heap.size w4).alloc (Nat.le_refl _) (.cells (madeCells #[.bool false] ls.length) 4)
            have hLd : ∀ (j : Nat) (X : World) (x : Value), j < ls.length → Below w4.heap.size w4 X → NumSl .u64 w4 x (rgAt ls j).s → Calls Try.prog 24 #[tabV (.slice a T.s.length cap) (.slice a2 T.b.length cap2), regV x (rgAt ls j).c (rgAt ls j).o, .slice none 0 0] X (IntBelow (keyF T ls j) X) := fun j X x hj hX hxx => by
              have hXw := hB4.trans (hX.mono hB4.size)
              have := lawLoudness_any (.slice a T.s.length cap) (.slice a2 T.b.length cap2) x (.slice none 0 0) (rgAt ls j).c (rgAt ls j).o T (rgAt ls j).s [] X (hv.mono hXw) (hu.mono hXw) hok (hxx.mono hX) (fit_iff.1 (hfz.out j hj)).1 (.inl ⟨⟨_, _, rfl⟩, rfl⟩) (.inl rfl) (lawSt_ok T)
              rw [hkl.out] at this
              exact this
            replace hLd := Lib.hid hLd
            have hx4 := hx.mono hB4
            replace hx4 := Lib.hid hx4
            replace hyo := Lib.hid hyo
            clear hv hu hx hta
            go_wp2_with fail
            clear hmb
            generalize w4.alloc (.cells (madeCells #[.bool false] ls.length) 4) = W5 at hR0 hB0 ⊢
            generalize hg : w4.heap.size = g at hR0 hB0 ⊢
            replace hg := Lib.hid hg
            have hU0 := Lib.hid (SeenTo.start ys ls.length)
            go_loopw [10] (fun i wr => ∃ (k : Nat) (us : List Bool), k ≤ ls.length ∧ i = .int .i64 (k : Int) ∧ RowB g g (rowS g ls.length) ls.length us wr ∧ Hid (SeenTo ys k us) ∧ Below g w4 wr) (fun i _ => ls.length - (intOf i).toNat)
            case atStart => exact ⟨0, _, Nat.zero_le _, rfl, hR0, hU0, hB0⟩
            case round =>
              clear hR0 hU0 hB0
              obtain ⟨k, us, hk, rfl, hR, hU, hB⟩ := hrel
              have hB' := hB
              rw [← hg.out] at hB'
              by_cases hlt : k < ls.length
              · have hkb : decide ((k : Int) < (ls.length : Int)) = true := decide_eq_true (by omega)
                obtain ⟨b, off, cap', he, hc⟩ := hyo.out.atN hyl.out hlt
                cases he
                have hck := hc k hlt
                obtain ⟨hlo1, hlo2⟩ := hout.out.low k hlt hlt
                obtain ⟨q, hq⟩ : ∃ q : Nat, nth ys k = (q : Int) := ⟨(nth ys k).toNat, by omega⟩
                rw [hq] at hlo2 hck
                have hqn : q < ls.length := by omega
                have hnw := hU.out.new hout.out hlt hq
                have hrc := hR.cell hqn
                rw [hnw] at hrc
                have hrf := hR.frozen (by omega) q
                have hb1 : decide ((q : Int) < 0) = false := decide_eq_false (by omega)
                have hb2 : decide ((ls.length : Int) ≤ (q : Int)) = false := decide_eq_false (by omega)
                have hb3 : decide (ls.length ≤ q) = false := decide_eq_false (by omega)
                have hU2 := Lib.hid (hU.out.next (by have := hR.1; omega) hq)
                have hR2 := hR.set q true
                have hB2 := hB.setCell (p := ⟨g, q, none⟩) (Nat.le_refl _) (.bool true)
                have hB3 : Below w4.heap.size w4 (wr.setCell ⟨g, q, none⟩ (.bool true)) := by rw [hg.out]; exact hB2
                have hck1 := (hB'.cell (p := ⟨b, off + k, none⟩) (lt_of_cell hck)).trans hck
                have hck2 := (hB3.cell (p := ⟨b, off + k, none⟩) (lt_of_cell hck)).trans hck
                replace hnw := Lib.hid hnw
                replace hq := Lib.hid hq
                by_cases hk0 : 0 < k
                · have hk1 : decide ((0 : Int) < (k : Int)) = true := decide_eq_true (by omega)
                  have hk2 : decide (0 < k) = true := decide_eq_true hk0
                  have hpk := hc (k - 1) (by omega)
                  obtain ⟨hpo1, hpo2⟩ := hout.out.low (k - 1) (by omega) (by omega)
                  obtain ⟨p, hp⟩ : ∃ p : Nat, nth ys (k - 1) = (p : Int) := ⟨(nth ys (k - 1)).toNat, by omega⟩
                  rw [hp] at hpo2 hpk
                  have hpn : p < ls.length := by omega
                  have hlk := hout.out.srt (k - 1) k (by omega) hlt hlt
                  unfold ltK at hlk
                  rw [hp, hq.out] at hlk
                  simp only [Int.toNat_natCast] at hlk
                  replace hp := Lib.hid hp
                  obtain ⟨bx, ox, cpx, hex, hcx⟩ := hx4.out.at hlt
                  cases hex
                  obtain ⟨xp, p0, hxp, p1, p2⟩ := hcx p hpn
                  obtain ⟨xq, q0, hxq, q1, q2⟩ := hcx q hqn
                  clear hcx
                  have hLp := fun X hX => hLd.out p X xp hpn hX hxp
                  have hLq := fun X hX => hLd.out q X xq hqn hX hxq
                  generalize keyF T ls p = A at hLp hlk
                  generalize keyF T ls q = B at hLq hlk
                  have hS : ∀ X, Below w4.heap.size w4 X → X.cell? ⟨w.heap.size, 0, none⟩ = some (.slice a T.s.length cap) ∧ X.cell? ⟨w.heap.size, 1, none⟩ = some (.slice a2 T.b.length cap2) ∧ X.cell? ⟨b, off + (k - 1), none⟩ = some (.int .i64 (p : Int)) ∧ X.cell? ⟨b, off + k, none⟩ = some (.int .i64 (q : Int)) ∧
                      X.cell? ⟨bx, ox + p * 3, none⟩ = some xp ∧ X.cell? ⟨bx, ox + p * 3 + 1, none⟩ = some (.int .u64 (rgAt ls p).c) ∧ X.cell? ⟨bx, ox + p * 3 + 2, none⟩ = some (.int .u64 (rgAt ls p).o) ∧
                      X.cell? ⟨bx, ox + q * 3, none⟩ = some xq ∧ X.cell? ⟨bx, ox + q * 3 + 1, none⟩ = some (.int .u64 (rgAt ls q).c) ∧ X.cell? ⟨bx, ox + q * 3 + 2, none⟩ = some (.int .u64 (rgAt ls q).o) := fun X hX =>
                    have f : ∀ {z : Addr} {u : Value}, w4.cell? z = some u → X.cell? z = some u := fun h => (hX.cell (lt_of_cell h)).trans h
                    ⟨f (bX4.cell 0 rfl), f (bX4.cell 1 rfl), f hpk, f hck, f p0, f p1, f p2, f q0, f q1, f q2⟩
                  clear p0 p1 p2 q0 q1 q2 hpk hxp hxq hc
                  replace hS := Lib.hid hS
                  replace hLp := Lib.hid hLp
                  replace hLq := Lib.hid hLq
                  replace hlk := Lib.hid hlk
                  go_wp2_with fail
                  have hD := hB3.drew
                  generalize wr.setCell ⟨g, q, none⟩ (.bool true) = W6 at hR2 hB2 hB3 hck2 hD ⊢
                  clear hck1 hck2 hck hrc hrf
                  have hi0 : IntKind.i64.wrap ((k : Int) - 1) = (k : Int) - 1 := IntWalk.i64_in _ (by omega)
                  have hi1 : (0 : Int) ≤ (k : Int) - 1 := by omega
                  have hi2 : (k : Int) - 1 < (ls.length : Int) := by omega
                  have hi3 : ((k : Int) - 1).toNat = k - 1 := by omega
                  have hi4 : (1 : Int) ≤ (k : Int) := by omega
                  have hi5 : (k : Int) ≤ (ls.length : Int) := by omega
                  have hi6 : 1 ≤ k := by omega
                  have hpi : (p : Int) < (ls.length : Int) := by omega
                  have hqi : (q : Int) < (ls.length : Int) := by omega
                  go_region_held3 (fun X => X.cell? ⟨w.heap.size, 0, none⟩ = some (.slice a T.s.length cap) ∧ X.cell? ⟨w.heap.size, 1, none⟩ = some (.slice a2 T.b.length cap2) ∧ X.cell? ⟨b, off + (k - 1), none⟩ = some (.int .i64 (p : Int)) ∧ X.cell? ⟨b, off + k, none⟩ = some (.int .i64 (q : Int)) ∧
                      X.cell? ⟨bx, ox + p * 3, none⟩ = some xp ∧ X.cell? ⟨bx, ox + p * 3 + 1, none⟩ = some (.int .u64 (rgAt ls p).c) ∧ X.cell? ⟨bx, ox + p * 3 + 2, none⟩ = some (.int .u64 (rgAt ls p).o) ∧
                      X.cell? ⟨bx, ox + q * 3, none⟩ = some xq ∧ X.cell? ⟨bx, ox + q * 3 + 1, none⟩ = some (.int .u64 (rgAt ls q).c) ∧ X.cell? ⟨bx, ox + q * 3 + 2, none⟩ = some (.int .u64 (rgAt ls q).o))
                    (first | exact hS.out _ hD | exact hS.out _ hDp | exact hS.out _ hDq | exact hS.out _ hDz)
                    (first | (go_at_call 24; ((with_reducible refine (hLp.out _ hD).mono ?_); rintro e wp ⟨rfl, hbp⟩; have hDp := hD.trans (hbp.mono hD.size)))
                           | (go_at_call 24; ((with_reducible refine (hLq.out _ hD).mono ?_); rintro e wp ⟨rfl, hbp⟩; have hDq := hD.trans (hbp.mono hD.size)))
                           | (go_at_call 24; ((with_reducible refine (hLq.out _ hDp).mono ?_); rintro e wz ⟨rfl, hbz⟩; have hDz := hDp.trans (hbz.mono hDp.size)))
                           | (go_at_call 24; ((with_reducible refine (hLp.out _ hDq).mono ?_); rintro e wz ⟨rfl, hbz⟩; have hDz := hDq.trans (hbz.mono hDq.size))))
                  all_goals
                    obtain ⟨-, -, z1, z2, -⟩ := hS.out _ hDz
                    have hBz : Below g w4 wz := by rw [← hg.out]; exact hDz
                    have hW : Below W6.heap.size W6 wz := (Below.refl _ _).drew.trans ((hbp.trans (hbz.mono hbp.size)).mono (Nat.le_refl _))
                    have hRz := hR2.grown hW
                    have hAB := hlk.out
                    clear hS hLp hLq hD hDz hbp hbz hW hR2 hB2 hB3 hlk
                    rcases hAB with hl | ⟨hl, hl2⟩
                    · have y1 : decide (B < A) = false := decide_eq_false (by omega)
                      have y2 : (A == B) = false := by simpa using (by omega : A ≠ B)
                      go_wp2_with fail
                      go_quiet (fail)
                      go_wp2_with fail
                      go_roundw
                      case rel => exact ⟨k + 1, _, by omega, by go_num, hRz.grown (below_drewN (Below.refl _ _) _), hU2, below_drewN hBz _⟩
                      case measure => simp [intOf]; omega
                    · subst hl
                      have y1 : decide (A < A) = false := by simp
                      have y3 : decide ((q : Int) < (p : Int)) = false := decide_eq_false (by omega)
                      have y4 : decide (q < p) = false := decide_eq_false (by omega)
                      go_wp2_with fail
                      go_quiet (fail)
                      go_wp2_with fail
                      go_roundw
                      case rel => exact ⟨k + 1, _, by omega, by go_num, hRz.grown (below_drewN (Below.refl _ _) _), hU2, below_drewN hBz _⟩
                      case measure => simp [intOf]; omega
                · have hk1 : decide ((0 : Int) < (k : Int)) = false := decide_eq_false (by omega)
                  have hk2 : decide (0 < k) = false := decide_eq_false hk0
                  clear hc
                  go_wp2_with fail
                  go_roundw
                  case rel => exact ⟨k + 1, _, by omega, by go_num, hR2, hU2, hB2⟩
                  case measure => simp [intOf]; omega
              · obtain rfl : k = ls.length := by omega
                go_wp2
                go_ret
                exact ⟨rfl, hB4.trans (hB'.mono hB4.size)⟩
end Go.Proofs.Ytbfldhmpgealpaa
