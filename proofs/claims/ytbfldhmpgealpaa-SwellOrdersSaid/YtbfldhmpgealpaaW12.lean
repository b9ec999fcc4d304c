/- The contract of the model's loudness. Conditions: a right table, a registration and stages that fit, or no stages. -/
import Derived.Test.YtbfldhmpgealpaaW11
namespace Go.Proofs.Ytbfldhmpgealpaa
open Go.RowKit

/-- the stages that the model takes -/
def lawSt (T : Tab) (l : List Int) (k : Nat) : Int := if l.length = 0 then ((nths T.b k).length : Int) - 1 else nth l k

set_option maxHeartbeats 4000000 in
theorem lawLoudness_any (v u x y : Value) (c o : Int) (T : Tab) (rs l : List Int) (w : World) (hv : SlSl w v T.s) (hu : SlSl w u T.b) (hT : TabOk T) (hx : NumSl .u64 w x rs) (hr : rs.length = T.s.length)
    (hy : NumSl .i64 w y l) (hl : l.length = 0 ∨ l.length = T.s.length) (hs : StOk T (lawSt T l)) :
    Calls Try.prog 24 #[tabV v u, regV x c o, y] w (IntBelow (loudF T rs (lawSt T l) T.s.length) w) := by
  have hB := ((Below.refl w.heap.size w).alloc (Nat.le_refl _) (.cells #[v, u] 35)).alloc (by simp) (.cells #[x, .int .u64 c, .int .u64 o] 39)
  have bP := (BoxC.new w 35 #[v, u]).alloc (.cells #[x, .int .u64 c, .int .u64 o] 39)
  have bR := BoxC.new (w.alloc (.cells #[v, u] 35)) 39 #[x, .int .u64 c, .int .u64 o]
  simp only [World.size_alloc] at bR
  have hv1 := hv.mono hB
  have hu1 := hu.mono hB
  have hx1 := hx.mono hB
  have hy1 := hy.mono hB
  obtain ⟨a, cap, rfl⟩ := hv.len
  obtain ⟨a2, cap2, rfl⟩ := hu.len
  obtain ⟨a3, cap3, rfl⟩ := hx.len
  obtain ⟨a4, cap4, rfl⟩ := hy.len
  have hn8 := hT.n
  clear hv hu hx hy
  have hr1 : (rs.length : Int) ≤ T.s.length ∧ (T.s.length : Int) ≤ rs.length := by omega
  have hb1 : (T.b.length : Int) ≤ T.s.length ∧ (T.s.length : Int) ≤ T.b.length := by have := hT.eq; omega
  obtain ⟨hr1, hr2⟩ := hr1
  obtain ⟨hb1, hb2⟩ := hb1
  replace hr := Lib.hid hr; replace hl := Lib.hid hl
  go_enter Try.func24, Try.ntmps24
  go_wp2
  generalize hW : (w.alloc (.cells #[.slice a T.s.length cap, .slice a2 T.b.length cap2] 35)).alloc (.cells #[.slice a3 rs.length cap3, .int .u64 c, .int .u64 o] 39) = W at hB bP bR hv1 hu1 hx1 hy1 ⊢
  clear hW
  go_loopw [7, 8] (fun s i wr => ∃ k : Nat, k ≤ T.s.length ∧ i = .int .i64 k ∧ s = .int .i64 (loudF T rs (lawSt T l) k) ∧ Below W.heap.size W wr) (fun _ i _ => T.s.length - (intOf i).toNat)
  case atStart => exact ⟨0, Nat.zero_le _, rfl, rfl, Below.refl _ _⟩
  case round =>
    obtain ⟨k, hk, rfl, rfl, hBr⟩ := hrel
    by_cases hlt : k < T.s.length
    · obtain ⟨b, off, cap', he, hc⟩ := (hv1.mono hBr).at hlt
      cases he
      obtain ⟨xv, cxv, hxv⟩ := hc k hlt
      obtain ⟨b2, off2, cap2', he2, hc2⟩ := (hx1.mono hBr).at (k := k) (by omega)
      cases he2
      have cr := hc2 k (by omega)
      obtain ⟨b4, off4, cap4', he4, hc4⟩ := (hu1.mono hBr).at (k := k) (by omega)
      cases he4
      obtain ⟨xb, cxb, hxb⟩ := hc4 k (by omega)
      have hyr := hy1.mono hBr
      have p0 := (bP.grown hBr).cell 0 rfl
      have p1 := (bP.grown hBr).cell 1 rfl
      have r0 := (bR.grown hBr).cell 0 rfl
      have hlen := hT.len k hlt
      have hval := fun i => hT.val k i hlt
      have hdb := fun j => drawS_bd (z := nth rs k) hval j
      have hst := hs k hlt
      have hbx := hT.box k hlt
      have hlb := loudF_bd (rs := rs) hT hs k (by omega)
      have hdv := divF_bd (rs := rs) hT hs hlt
      have hlf : loudF T rs (lawSt T l) (k + 1) = loudF T rs (lawSt T l) k + divF T rs (lawSt T l) k := rfl
      have hdf : divF T rs (lawSt T l) k = if (nths T.b k).length = 0 then drawS (nths T.s k) (nth rs k) (nths T.s k).length else drawS (nths T.s k) (nth rs k) (nths T.s k).length * nth (nths T.b k) (lawSt T l k).toNat / 1000 := rfl
      obtain ⟨ax, capx, rfl⟩ := hxv.len
      obtain ⟨ab, capb, rfl⟩ := hxb.len
      replace hlf := Lib.hid hlf; replace hdf := Lib.hid hdf; replace hst := Lib.hid hst; replace hbx := Lib.hid hbx
      clear hc hc2 hc4 hs hT bP bR hv1 hu1 hx1 hy1
      generalize loudF T rs (lawSt T l) k = LF at hlf hlb ⊢
      generalize divF T rs (lawSt T l) k = DF at hlf hdf hdv
      have hsl : lawSt T l k = if l.length = 0 then ((nths T.b k).length : Int) - 1 else nth l k := rfl
      replace hsl := Lib.hid hsl
      generalize lawSt T l k = sl at hsl hst hdf
      generalize hz : nth rs k = z at cr hdb hdf
      clear hz
      generalize nths T.s k = xs at *
      generalize nths T.b k = ys at *
      have hkr : (k : Int) < (rs.length : Int) := by omega
      have hkb : (k : Int) < (T.b.length : Int) := by omega
      go_wp2
      go_loop [9, 10] (fun s i => ∃ j : Nat, j ≤ xs.length ∧ i = .int .i64 j ∧ s = .int .i64 (drawS xs z j)) (fun _ i => xs.length - (intOf i).toNat)
      case atStart => exact ⟨0, Nat.zero_le _, rfl, rfl⟩
      case round =>
        obtain ⟨j, hj, rfl, rfl⟩ := hrel
        have hdj := hdb j
        by_cases hlj : j < xs.length
        · obtain ⟨b3, off3, cap3', he3, hc3⟩ := hxv.at hlj
          cases he3
          have cj := hc3 j hlj
          have hvj := hval j
          have hds : drawS xs z (j + 1) = drawS xs z j + (if bitB z j then nth xs j else 0) := rfl
          have hbit : bitB z j = (bits BinOp.and IntKind.u64 (z / 2 ^ j) 1 == 1) := rfl
          clear hc3 hval hdb
          generalize drawS xs z j = D at hdj hds ⊢
          generalize nth xs j = e at cj hvj hds
          generalize bitB z j = bt at hbit hds
          cases bt
          · have hbt := hbit.symm
            rw [if_neg (by simp)] at hds
            replace hds := Lib.hid hds
            clear hbit
            go_wp2
            go_round
            case rel => exact ⟨j + 1, by omega, by go_num, by rw [hds.out]; go_num⟩
            case measure => simp [intOf]; omega
          · have hbt := hbit.symm
            rw [if_pos rfl] at hds
            replace hds := Lib.hid hds
            clear hbit
            go_wp2
            go_round
            case rel => exact ⟨j + 1, by omega, by go_num, by rw [hds.out]⟩
            case measure => simp [intOf]; omega
        · obtain rfl : j = xs.length := by omega
          generalize drawS xs z xs.length = D at hdj hdf ⊢
          clear hval hdb
          by_cases q : ys.length = 0
          · have e := hdf.out
            rw [if_pos q] at e
            subst e
            have q' : ¬ 0 < (ys.length : Int) := by omega
            have q2 : (ys.length : Int) ≤ 0 := by omega
            replace q := Lib.hid q
            go_wp2
            go_roundw
            case rel => exact ⟨k + 1, by omega, by go_num, by rw [hlf.out], hBr⟩
            case measure => simp [intOf]; omega
          · have e := hdf.out
            rw [if_neg q] at e
            have hst' : 0 ≤ sl ∧ sl < (ys.length : Int) := hst.out.resolve_left q
            have hbx' := hbx.out.resolve_left q
            have q2 : 0 < (ys.length : Int) := by omega
            obtain ⟨i, rfl⟩ := Int.eq_ofNat_of_zero_le hst'.1
            rw [Int.toNat_natCast] at e
            obtain ⟨b6, off6, cap6', he6, hc6⟩ := hxb.at (k := i) (by omega)
            cases he6
            have ci := hc6 i (by omega)
            have hm := hbx'.r i (by omega)
            have hy64 := hbx'.n1
            have hii : (i : Int) < (ys.length : Int) := hst'.2
            clear hc6 hst' hbx' q
            generalize nth ys i = m at ci hm e
            have a1 : D * m ≤ D * 1000 := Int.mul_le_mul_of_nonneg_left hm.2 hdj.1
            have a2 : 0 ≤ D * m := Int.mul_nonneg hdj.1 hm.1
            obtain ⟨m0, m1⟩ := hm
            replace e := Lib.hid e
            by_cases hl0 : l.length = 0
            · have e3 := hsl.out
              rw [if_pos hl0] at e3
              have e4 : i = ys.length - 1 := by omega
              have hl3 : (l.length : Int) ≤ 0 := by omega
              have q3 : (1 : Int) ≤ (ys.length : Int) := by omega
              have q4 : ((ys.length : Int) - 1).toNat = ys.length - 1 := by omega
              replace hl0 := Lib.hid hl0
              clear e3
              subst e4
              go_wp2
              go_roundw
              case rel => exact ⟨k + 1, by omega, by go_num, by rw [hlf.out, ← e.out], hBr⟩
              case measure => simp [intOf]; omega
            · have e3 := hsl.out
              rw [if_neg hl0] at e3
              have hll := hl.out.resolve_left hl0
              obtain ⟨b5, off5, cap5', he5, hc5⟩ := hyr.at (k := k) (by omega)
              cases he5
              have cl := hc5 k (by omega)
              rw [← e3] at cl
              have hl3 : 0 < (l.length : Int) := by omega
              have hkl : (k : Int) < (l.length : Int) := by omega
              clear e3 hl0 hll hc5
              go_wp2
              go_roundw
              case rel => exact ⟨k + 1, by omega, by go_num, by rw [hlf.out, ← e.out], hBr⟩
              case measure => simp [intOf]; omega
    · obtain rfl : k = T.s.length := by omega
      have p0 := (bP.grown hBr).cell 0 rfl
      go_wp2
      go_ret
      exact ⟨rfl, hB.trans (hBr.mono hB.size)⟩
end Go.Proofs.Ytbfldhmpgealpaa
