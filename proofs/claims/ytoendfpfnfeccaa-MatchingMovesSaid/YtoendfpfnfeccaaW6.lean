/- The contracts of total, Total and of the model's Total. Conditions: right costs. -/
import Derived.Test.YtoendfpfnfeccaaW5
import Derived.Test.YtoendfpfnfeccaaP7
namespace Go.Proofs.Ytoendfpfnfeccaa
open Go.RowKit Go.Shelf

def PairBelow (p : Int × Int) (w : World) (e : Ending) (w' : World) : Prop := e = .returned (.tuple #[.int .i64 p.1, .int .i64 p.2]) ∧ Below w.heap.size w w'
theorem ret_pair {a b c d : Int} (h : (a, b) = (c, d)) : Ending.returned (.tuple #[.int .i64 a, .int .i64 b]) = .returned (.tuple #[.int .i64 c, .int .i64 d]) := by cases h; rfl

set_option maxRecDepth 100000 in
set_option maxHeartbeats 4000000 in
theorem total_any (v l : Value) (css : List (List Int)) (ls : List Int) (skips : Bool) (least skip : Int) (w : World) (hv : SlSl w v css) (hl : NumSl .i64 w l ls) (hok : CsOk css) (hs : -1000000000 ≤ skip ∧ skip ≤ 1000000000)
    (hls : (skips = true ∧ least = -1) ∨ (skips = false ∧ least = 0)) : Calls Try.prog 40 #[v, l, .int .i64 least, .int .i64 skip] w (PairBelow (totF css ls skips skip) w) := by
  have hcol := columns_any v css w hv (by have := hok.n; omega)
  obtain ⟨F, hF⟩ : ∃ F, totF css ls skips skip = F := ⟨_, rfl⟩
  rw [hF]
  unfold totF at hF
  have hv0 := Lib.hid hv
  have hl0 := Lib.hid hl
  by_cases hlen : ls.length = css.length
  · rw [if_neg (by simpa using hlen)] at hF
    obtain ⟨n, hn⟩ : ∃ n, css.length = n := ⟨_, rfl⟩
    obtain ⟨m, hm⟩ : ∃ m, colN css = m := ⟨_, rfl⟩
    obtain ⟨av, cv, rfl⟩ := hv.lenN hn
    obtain ⟨al, cl, rfl⟩ := hl.lenV (hlen.trans hn)
    rw [hn] at hlen
    have hn60 := hok.n
    have hm120 := hok.m
    rw [hn] at hn60
    rw [hm] at hcol hm120
    have hrow := fun k hk => (hok.row k hk).trans hm
    have hval := hok.val
    replace hF := Lib.hid hF
    replace hlen := Lib.hid hlen
    replace hn := Lib.hid hn
    replace hm := Lib.hid hm
    replace hcol := Lib.hid hcol
    replace hrow := Lib.hid hrow
    replace hval := Lib.hid hval
    clear hv hl hok
    have hmb : ∀ X : World, (Instr.makeSlice 51 (.int .i64 (m : Int)) (.int .i64 (m : Int))).run Try.prog X = .ok (rowS X.heap.size m) (X.alloc (.cells (madeCells #[.bool false] m) 4)) := run_make51 m (by omega)
    have hR0 := rowB_new (base := w.heap.size) (n := m) (X := w) (by omega) (Nat.le_refl _)
    have hB0 := (Below.refl w.heap.size w).alloc (Nat.le_refl _) (.cells (madeCells #[.bool false] m) 4)
    replace hls := Lib.hid hls
    go_enter Try.func40, Try.ntmps40
    go_wp2_with fail
    refine hcol.out.mono ?_
    rintro e w1 ⟨rfl, rfl⟩
    go_wp2_with fail
    clear hmb
    generalize w.alloc (.cells (madeCells #[.bool false] m) 4) = W1 at hR0 hB0 ⊢
    generalize hg : w.heap.size = g at hR0 hB0 ⊢
    replace hg := Lib.hid hg
    have hU0 : Used m ls 0 (nthb (falses m)) := Used.start (nthb_falses m)
    replace hU0 := Lib.hid hU0
    go_loopw [10, 24] (fun s i wr => ∃ (k : Nat) (sum : Int) (us : List Bool), k ≤ n ∧ i = .int .i64 (k : Int) ∧ s = .int .i64 sum ∧ -((k : Int) * 1000000000) ≤ sum ∧ sum ≤ (k : Int) * 1000000000 ∧ Hid (totS css ls skips skip k sum = F) ∧ RowB g g (rowS g m) m us wr ∧ Hid (Used m ls k (nthb us)) ∧ Below g w wr) (fun _ i _ => n - (intOf i).toNat)
    case atStart => exact ⟨0, 0, _, Nat.zero_le _, rfl, rfl, by simp, by simp, hF, hR0, hU0, hB0⟩
    case round =>
      clear hF hR0 hU0 hB0
      obtain ⟨k, sum, us, hk, rfl, rfl, hs1, hs2, hF, hR, hU, hB⟩ := hrel
      have hB' := hB
      rw [← hg.out] at hB'
      by_cases hlt : k < n
      · have hkb : decide ((k : Int) < (n : Int)) = true := decide_eq_true (by omega)
        have hkl : k < css.length := by rw [hn.out]; exact hlt
        obtain ⟨b, off, cap, he, hc⟩ := (hl0.out.mono hB').atN hlen.out hlt
        cases he
        have hck := hc k hlt
        clear hc
        obtain ⟨c, hce⟩ : ∃ c, nth ls k = c := ⟨_, rfl⟩
        rw [hce] at hck
        by_cases hsk : skips = true ∧ c = -1
        · have hst := (totS_skip (css := css) (skip := skip) (s := sum) hkl hsk.1 (hce.trans hsk.2)).symm.trans hF.out
          have hU2 := Lib.hid (hU.out.skip (hce.trans hsk.2))
          have hle : least = -1 := by rcases hls.out with h | h; exact h.2; rw [hsk.1] at h; cases h.1
          have hc1 := hsk.2
          subst hc1 hle
          replace hst := Lib.hid hst
          have hb1 : decide ((m : Int) ≤ -1) = false := decide_eq_false (by omega)
          clear hF hU hsk hce
          go_wp2_with fail
          go_roundw
          case rel => exact ⟨k + 1, sum + skip, us, by omega, by go_num, rfl, by omega, by omega, hst, hR, hU2, hB⟩
          case measure => simp [intOf]; omega
        · by_cases hrg : c < 0 ∨ (m : Int) ≤ c
          · have hst := (totS_range (css := css) (ls := ls) (skips := skips) (skip := skip) (s := sum) hkl (by rw [hce]; exact hsk) (by rw [hce, hm.out]; exact hrg)).symm.trans hF.out
            by_cases hc0 : c < least
            · have hb1 : decide (c < least) = true := decide_eq_true hc0
              subst hst
              clear hF hU hsk hce hc0 hrg
              go_wp2_with fail
              go_ret2
              exact ⟨rfl, hB'⟩
            · have hb1 : decide (c < least) = false := decide_eq_false hc0
              have hmc : (m : Int) ≤ c := by
                rcases hrg with h | h
                · exfalso
                  rcases hls.out with ⟨h1, h2⟩ | ⟨h1, h2⟩
                  · exact hsk ⟨h1, by omega⟩
                  · omega
                · exact h
              have hb2 : decide ((m : Int) ≤ c) = true := decide_eq_true hmc
              subst hst
              clear hF hU hsk hce hc0 hrg
              go_wp2_with fail
              go_ret2
              exact ⟨rfl, hB'⟩
          · obtain ⟨d, hd⟩ : ∃ d : Nat, c = d := ⟨c.toNat, by omega⟩
            subst hd
            have hdm : d < m := by omega
            have hle : ¬ (d : Int) < least := by rcases hls.out with h | h <;> omega
            have hb1 : decide ((d : Int) < least) = false := decide_eq_false hle
            have hb2 : decide ((m : Int) ≤ (d : Int)) = false := decide_eq_false (by omega)
            have hb3 : decide (m ≤ d) = false := decide_eq_false (by omega)
            have hrm : ¬ (nth ls k < 0 ∨ (colN css : Int) ≤ nth ls k) := by rw [hce, hm.out]; exact hrg
            have hsk' : ¬ (skips = true ∧ nth ls k = -1) := by rw [hce]; exact hsk
            have hdu := hU.out.dup hdm hce
            have hrc := hR.cell hdm
            have hrf := hR.frozen (by omega) d
            rw [hdu] at hrc
            by_cases hdp : dupF ls k 0 = true
            · have hst := (totS_dup (css := css) (ls := ls) (skips := skips) (skip := skip) (s := sum) hkl hsk' hrm hdp).symm.trans hF.out
              rw [hdp] at hrc
              subst hst
              clear hF hU hsk hce hrg hle hrm hsk' hdu hdp
              go_wp2_with fail
              go_ret2
              exact ⟨rfl, hB'⟩
            · rw [Bool.not_eq_true] at hdp
              have hst := (totS_next (css := css) (ls := ls) (skips := skips) (skip := skip) (s := sum) hkl hsk' hrm hdp).symm.trans hF.out
              rw [hdp] at hrc
              rw [hce, Int.toNat_natCast] at hst
              have hU2 := Lib.hid (hU.out.put (by have := hR.1; simpa using this) hdm hce)
              have hR2 := hR.set d true
              have hB2 := hB.setCell (p := ⟨g, d, none⟩) (Nat.le_refl _) (.bool true)
              have hB3 := hB2
              rw [← hg.out] at hB3
              rw [hg.out] at hB3
              have hvl := hval.out k d
              have hXm : ∃ b off cap b2 o2 c2, (Value.slice av n cv) = .slice (some ⟨b, off, none⟩) n cap ∧ (wr.setCell ⟨g, d, none⟩ (.bool true)).cell? ⟨b, off + k, none⟩ = some (.slice (some ⟨b2, o2, none⟩) m c2) ∧ (wr.setCell ⟨g, d, none⟩ (.bool true)).cell? ⟨b2, o2 + d, none⟩ = some (.int .i64 (nth (nths css k) d)) := by
                obtain ⟨b, off, cap, he, _, hc⟩ := (hv0.out.mono (by rw [hg.out]; exact hB3)).atN hn.out hlt
                obtain ⟨x, hx1, hx2⟩ := hc k hlt
                obtain ⟨b2, o2, c2, rfl, hc2⟩ := hx2.atN (hrow.out k hkl) (k := d) hdm
                exact ⟨b, off, cap, b2, o2, c2, he, hx1, hc2 d hdm⟩
              obtain ⟨b', off', cap', b2, o2, c2, he, hx1, hx2⟩ := hXm
              cases he
              generalize nth (nths css k) d = z at hst hvl hx2
              replace hst := Lib.hid hst
              clear hF hU hsk hce hrg hle hrm hsk' hdu hdp hB3
              go_wp2_with fail
              go_roundw
              case rel => exact ⟨k + 1, sum + z, _, by omega, by go_num, rfl, by omega, by omega, hst, hR2, hU2, hB2⟩
              case measure => simp [intOf]; omega
      · obtain rfl : k = n := by omega
        have hst := (totS_end (css := css) (ls := ls) (skips := skips) (skip := skip) (s := sum) (i := k) (by rw [hn.out]; exact Nat.le_refl _)).symm.trans hF.out
        subst hst
        clear hF hU
        go_wp2_with fail
        go_ret2
        exact ⟨rfl, hB'⟩
  · rw [if_pos hlen] at hF
    obtain ⟨av, cv, rfl⟩ := hv.len
    obtain ⟨al, cl, rfl⟩ := hl.len
    have hlb : ((ls.length : Int) != (css.length : Int)) = true := by simp; omega
    subst hF
    have h1 := hok.n
    clear hv hl hok hls hcol hlen
    go_enter Try.func40, Try.ntmps40
    go_wp2
    go_ret2
    exact ⟨rfl, Below.refl _ _⟩

set_option maxRecDepth 100000 in
set_option maxHeartbeats 4000000 in
theorem refTotal_any (v l : Value) (css : List (List Int)) (ls : List Int) (skips : Bool) (skip : Int) (w : World) (hv : SlSl w v css) (hl : NumSl .i64 w l ls) (hok : CsOk css) (hs : -1000000000 ≤ skip ∧ skip ≤ 1000000000) :
    Calls Try.prog 24 #[v, l, .int .i64 skip, .bool skips] w (PairBelow (totF css ls skips skip) w) := by
  obtain ⟨F, hF⟩ : ∃ F, totF css ls skips skip = F := ⟨_, rfl⟩
  rw [hF]
  unfold totF at hF
  by_cases hlen : ls.length = css.length
  · rw [if_neg (by simpa using hlen)] at hF
    obtain ⟨n, hn⟩ : ∃ n, css.length = n := ⟨_, rfl⟩
    obtain ⟨m, hm⟩ : ∃ m, colN css = m := ⟨_, rfl⟩
    have hv0 := Lib.hid hv
    have hl0 := Lib.hid hl
    obtain ⟨av, cv, rfl⟩ := hv.lenN hn
    obtain ⟨al, cl, rfl⟩ := hl.lenV (hlen.trans hn)
    rw [hn] at hlen
    have hn60 := hok.n
    have hm120 := hok.m
    rw [hn] at hn60
    rw [hm] at hm120
    have hrow := fun k hk => (hok.row k hk).trans hm
    have hval := hok.val
    replace hF := Lib.hid hF
    replace hlen := Lib.hid hlen
    replace hn := Lib.hid hn
    replace hm := Lib.hid hm
    replace hrow := Lib.hid hrow
    replace hval := Lib.hid hval
    clear hv hl hok
    go_enter Try.func24, Try.ntmps24
    go_wp2
    go_loop [10, 11] (fun s i => ∃ (k : Nat) (sum : Int), k ≤ n ∧ i = .int .i64 (k : Int) ∧ s = .int .i64 sum ∧ -((k : Int) * 1000000000) ≤ sum ∧ sum ≤ (k : Int) * 1000000000 ∧ Hid (totS css ls skips skip k sum = F)) (fun _ i => n - (intOf i).toNat)
    case atStart => exact ⟨0, 0, Nat.zero_le _, rfl, rfl, by simp, by simp, hF⟩
    case round =>
      clear hF
      obtain ⟨k, sum, hk, rfl, rfl, hs1, hs2, hF⟩ := hrel
      by_cases hlt : k < n
      · have hkb : decide ((k : Int) < (n : Int)) = true := decide_eq_true (by omega)
        have hkl : k < css.length := by rw [hn.out]; exact hlt
        obtain ⟨b, off, cap, he, hc⟩ := hl0.out.atN hlen.out hlt
        cases he
        have hck := hc k hlt
        obtain ⟨c, hce⟩ : ∃ c, nth ls k = c := ⟨_, rfl⟩
        rw [hce] at hck
        by_cases hsk : skips = true ∧ c = -1
        · have hst := (totS_skip (css := css) (skip := skip) (s := sum) hkl hsk.1 (hce.trans hsk.2)).symm.trans hF.out
          obtain ⟨hc1, hc2⟩ := hsk
          subst hc1 hc2
          replace hst := Lib.hid hst
          clear hF hce hc
          go_wp2
          go_round
          case rel => exact ⟨k + 1, sum + skip, by omega, by go_num, rfl, by omega, by omega, hst⟩
          case measure => simp [intOf]; omega
        · have hskb : skips = true → (c == -1) = false := fun h => by rw [beq_eq_false_iff_ne]; exact fun e => hsk ⟨h, e⟩
          obtain ⟨b1, o1, cap1, he1, _, hc1⟩ := hv0.out.atN hn.out hlt
          cases he1
          obtain ⟨x, hx1, hx2⟩ := hc1 k hlt
          obtain ⟨a2, c2, rfl⟩ := hx2.lenV (hrow.out k hkl)
          by_cases hrg : c < 0 ∨ (m : Int) ≤ c
          · have hst := (totS_range (css := css) (ls := ls) (skips := skips) (skip := skip) (s := sum) hkl (by rw [hce]; exact hsk) (by rw [hce, hm.out]; exact hrg)).symm.trans hF.out
            subst hst
            by_cases hc0 : c < 0
            · have hb1 : decide (c < 0) = true := decide_eq_true hc0
              clear hF hsk hce hc0 hrg hx2 hc hc1
              cases skips
              all_goals
                try replace hskb := hskb rfl
                go_wp2
                go_ret2
                exact ⟨rfl, Below.refl _ _⟩
            · have hb1 : decide (c < 0) = false := decide_eq_false hc0
              have hb2 : decide ((m : Int) ≤ c) = true := decide_eq_true (by omega)
              clear hF hsk hce hc0 hrg hx2 hc hc1
              cases skips
              all_goals
                try replace hskb := hskb rfl
                go_wp2
                go_ret2
                exact ⟨rfl, Below.refl _ _⟩
          · obtain ⟨d, hd⟩ : ∃ d : Nat, c = d := ⟨c.toNat, by omega⟩
            subst hd
            have hdm : d < m := by omega
            have hb2 : decide ((m : Int) ≤ (d : Int)) = false := decide_eq_false (by omega)
            have hb3 : decide (m ≤ d) = false := decide_eq_false (by omega)
            have hrm : ¬ (nth ls k < 0 ∨ (colN css : Int) ≤ nth ls k) := by rw [hce, hm.out]; exact hrg
            have hsk' : ¬ (skips = true ∧ nth ls k = -1) := by rw [hce]; exact hsk
            obtain ⟨b2, o2, c2', he2, hc2⟩ := hx2.atN (hrow.out k hkl) (k := d) hdm
            cases he2
            have hxd := hc2 d hdm
            have hvl := hval.out k d
            have hD : Hid (dupF ls k 0 = true → F = (0, 9)) := Lib.hid (fun h => ((totS_dup (css := css) (ls := ls) (skips := skips) (skip := skip) (s := sum) hkl hsk' hrm h).symm.trans hF.out).symm)
            have hN : Hid (dupF ls k 0 = false → totS css ls skips skip (k + 1) (sum + nth (nths css k) d) = F) := Lib.hid (fun h => by
              have := (totS_next (css := css) (ls := ls) (skips := skips) (skip := skip) (s := sum) hkl hsk' hrm h).symm.trans hF.out
              rwa [hce, Int.toNat_natCast] at this)
            generalize nth (nths css k) d = z at hN hvl hxd
            replace hce := Lib.hid hce
            replace hc := Lib.hid hc
            clear hF hsk hrg hrm hsk' hx2 hc1 hc2
            cases skips
            all_goals
              try replace hskb := hskb rfl
              go_wp2
              go_loop [13] (fun i => ∃ q : Nat, q ≤ k ∧ i = .int .i64 (q : Int) ∧ Hid (dupF ls k q = dupF ls k 0)) (fun i => k - (intOf i).toNat)
              case atStart => exact ⟨0, Nat.zero_le _, rfl, Lib.hid rfl⟩
              case round =>
                obtain ⟨q, hq, rfl, hd⟩ := hrel
                by_cases hqk : q < k
                · have hqb : decide ((q : Int) < (k : Int)) = true := decide_eq_true (by omega)
                  have hcq := hc.out q (by omega)
                  by_cases he : nth ls q = (d : Int)
                  · have hF9 := hD.out (hd.out.symm.trans (dupF_hit hqk (he.trans hce.out.symm)))
                    rw [he] at hcq
                    subst hF9
                    clear hD hN hd he
                    go_wp2
                    go_ret2
                    exact ⟨rfl, Below.refl _ _⟩
                  · have hn2 := (dupF_next hqk (fun e => he (e.trans hce.out))).symm.trans hd.out
                    replace hn2 := Lib.hid hn2
                    have hqe : (nth ls q == (d : Int)) = false := by rw [beq_eq_false_iff_ne]; exact he
                    clear hd he
                    go_wp2
                    go_round
                    case rel => exact ⟨q + 1, by omega, by go_num, hn2⟩
                    case measure => simp [intOf]; omega
                · obtain rfl : q = k := by omega
                  have hst := hN.out (hd.out.symm.trans (dupF_end (Nat.le_refl _)))
                  replace hst := Lib.hid hst
                  clear hD hN hd
                  go_wp2
                  go_round
                  case rel => exact ⟨q + 1, sum + z, by omega, by go_num, rfl, by omega, by omega, hst⟩
                  case measure => simp [intOf]; omega
      · obtain rfl : k = n := by omega
        have hst := (totS_end (css := css) (ls := ls) (skips := skips) (skip := skip) (s := sum) (i := k) (by rw [hn.out]; exact Nat.le_refl _)).symm.trans hF.out
        subst hst
        clear hF
        go_wp2
        go_ret2
        exact ⟨rfl, Below.refl _ _⟩
  · rw [if_pos hlen] at hF
    obtain ⟨av, cv, rfl⟩ := hv.len
    obtain ⟨al, cl, rfl⟩ := hl.len
    have hlb : ((ls.length : Int) != (css.length : Int)) = true := by simp; omega
    subst hF
    have h1 := hok.n
    clear hv hl hok hlen
    go_enter Try.func24, Try.ntmps24
    go_wp2
    go_ret2
    exact ⟨rfl, Below.refl _ _⟩
end Go.Proofs.Ytoendfpfnfeccaa
