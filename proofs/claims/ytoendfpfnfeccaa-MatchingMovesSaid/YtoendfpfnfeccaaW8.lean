/- The contracts of the model's Valid and Sum. Conditions: right costs; potentials of the right sizes, in range. -/
import Derived.Test.YtoendfpfnfeccaaW7
namespace Go.Proofs.Ytoendfpfnfeccaa
open Go.RowKit Go.Shelf

theorem sumN_in {xs : List Int} {B : Int} (h : ∀ k, -B ≤ nth xs k ∧ nth xs k ≤ B) (k : Nat) : -(k * B) ≤ sumN (nth xs) k ∧ sumN (nth xs) k ≤ k * B := sumN_bd k (fun i _ => h i)
set_option maxHeartbeats 2000000 in
theorem refSum_any (r l : Value) (rows ls : List Int) (w : World) (hr : NumSl .i64 w r rows) (hl : NumSl .i64 w l ls) (hrn : rows.length ≤ 200) (hln : ls.length ≤ 200)
    (hrb : ∀ k, -1000000000000 ≤ nth rows k ∧ nth rows k ≤ 1000000000000) (hlb : ∀ k, -1000000000000 ≤ nth ls k ∧ nth ls k ≤ 1000000000000) :
    Calls Try.prog 22 #[r, l] w (IntBelow (sumF rows ls) w) := by
  obtain ⟨rl, hrl⟩ : ∃ rl, rows.length = rl := ⟨_, rfl⟩
  obtain ⟨ll, hll⟩ : ∃ ll, ls.length = ll := ⟨_, rfl⟩
  obtain ⟨F, hF⟩ : ∃ F, sumF rows ls = F := ⟨_, rfl⟩
  rw [hF]
  unfold sumF at hF
  rw [hrl, hll] at hF
  have hr0 := Lib.hid hr
  have hl0 := Lib.hid hl
  obtain ⟨ar, cr, rfl⟩ := hr.lenV hrl
  obtain ⟨al, cl, rfl⟩ := hl.lenV hll
  rw [hrl] at hrn
  rw [hll] at hln
  replace hF := Lib.hid hF
  replace hrl := Lib.hid hrl
  replace hll := Lib.hid hll
  replace hrb := Lib.hid hrb
  replace hlb := Lib.hid hlb
  clear hr hl
  go_enter Try.func22, Try.ntmps22
  go_wp2
  go_loop [5, 6] (fun s i => ∃ (k : Nat) (z : Int), k ≤ rl ∧ i = .int .i64 (k : Int) ∧ s = .int .i64 z ∧ Hid (z = sumN (nth rows) k)) (fun _ i => rl - (intOf i).toNat)
  case atStart => exact ⟨0, 0, Nat.zero_le _, rfl, rfl, Lib.hid rfl⟩
  case round =>
    obtain ⟨k, z, hk, rfl, rfl, hz⟩ := hrel
    have hbd := sumN_in hrb.out k
    rw [← hz.out] at hbd
    by_cases hlt : k < rl
    · have hkb : decide ((k : Int) < (rl : Int)) = true := decide_eq_true (by omega)
      obtain ⟨b2, off2, cap2, he, hc⟩ := hr0.out.atN hrl.out hlt
      cases he
      have hck := hc k hlt
      have hxb := hrb.out k
      have hz2 : Hid (z + nth rows k = sumN (nth rows) (k + 1)) := by
        have := hz.out
        rw [this]
        exact Lib.hid rfl
      clear hc hz
      generalize nth rows k = x at hck hxb hz2
      go_wp2
      go_round
      case rel => exact ⟨k + 1, z + x, by omega, by go_num, rfl, hz2⟩
      case measure => simp [intOf]; omega
    · obtain rfl : k = rl := by omega
      go_wp2
      go_loop [5, 7] (fun s i => ∃ (q : Nat) (y : Int), q ≤ ll ∧ i = .int .i64 (q : Int) ∧ s = .int .i64 y ∧ Hid (y = z + sumN (nth ls) q)) (fun _ i => ll - (intOf i).toNat)
      case atStart => exact ⟨0, z, Nat.zero_le _, rfl, rfl, Lib.hid (by simp [sumN])⟩
      case round =>
        obtain ⟨q, y, hq, rfl, rfl, hy⟩ := hrel
        have hbq := sumN_in hlb.out q
        have hyb : -400000000000000 ≤ y ∧ y ≤ 400000000000000 := by have := hy.out; omega
        clear hbq
        by_cases hlq : q < ll
        · have hqb : decide ((q : Int) < (ll : Int)) = true := decide_eq_true (by omega)
          obtain ⟨b2, off2, cap2, he, hc⟩ := hl0.out.atN hll.out hlq
          cases he
          have hck := hc q hlq
          have hxb := hlb.out q
          have hy2 : Hid (y + nth ls q = z + sumN (nth ls) (q + 1)) := by
            have := hy.out
            rw [this]
            exact Lib.hid (by show z + sumN (nth ls) q + nth ls q = z + (sumN (nth ls) q + nth ls q); omega)
          clear hc hy
          generalize nth ls q = x at hck hxb hy2
          go_wp2
          go_round
          case rel => exact ⟨q + 1, y + x, by omega, by go_num, rfl, hy2⟩
          case measure => simp [intOf]; omega
        · obtain rfl : q = ll := by omega
          go_wp2
          go_ret
          exact ⟨ret_int (by rw [← hF.out, ← hz.out]; exact hy.out), Below.refl _ _⟩

set_option maxRecDepth 100000 in
set_option maxHeartbeats 2000000 in
theorem refValid_any (v r l : Value) (css : List (List Int)) (rows ls : List Int) (w : World) (hv : SlSl w v css) (hr : NumSl .i64 w r rows) (hl : NumSl .i64 w l ls) (hok : CsOk css) (hsz : SzOk css rows ls) :
    Calls Try.prog 21 #[v, r, l] w (BoolBelow (valF css rows ls) w) := by
  obtain ⟨F, hF⟩ : ∃ F, valF css rows ls = F := ⟨_, rfl⟩
  rw [hF]
  unfold valF at hF
  obtain ⟨n, hn⟩ : ∃ n, css.length = n := ⟨_, rfl⟩
  obtain ⟨m, hm⟩ : ∃ m, colN css = m := ⟨_, rfl⟩
  have hrl := hsz.r.trans hn
  have hll := hsz.c.trans hm
  have hv0 := Lib.hid hv
  have hr0 := Lib.hid hr
  have hl0 := Lib.hid hl
  have hn60 := hok.n
  have hm120 := hok.m
  rw [hn] at hn60
  rw [hm] at hm120
  have hrow := Lib.hid (fun k (h : k < n) => (hok.row k (by omega)).trans hm)
  have hval := Lib.hid hok.val
  have hrb := Lib.hid hsz.rb
  have hlb := Lib.hid hsz.cb
  obtain ⟨av, cv, rfl⟩ := hv.lenN hn
  obtain ⟨ar, cr, rfl⟩ := hr.lenV hrl
  obtain ⟨al, cl, rfl⟩ := hl.lenV hll
  replace hF := Lib.hid hF
  replace hn := Lib.hid hn
  replace hm := Lib.hid hm
  replace hrl := Lib.hid hrl
  replace hll := Lib.hid hll
  clear hv hr hl hok hsz
  go_enter Try.func21, Try.ntmps21
  go_wp2
  go_loop [7] (fun i => ∃ k : Nat, k ≤ m ∧ i = .int .i64 (k : Int) ∧ Hid (∀ i, i < k → posB (nth ls i) = false)) (fun i => m - (intOf i).toNat)
  case atStart => exact ⟨0, Nat.zero_le _, rfl, Lib.hid (fun i hi => by omega)⟩
  case round =>
    obtain ⟨k, hk, rfl, hp⟩ := hrel
    by_cases hlt : k < m
    · have hkb : decide ((k : Int) < (m : Int)) = true := decide_eq_true (by omega)
      obtain ⟨b2, off2, cap2, he, hc⟩ := hl0.out.atN hll.out hlt
      cases he
      have hck := hc k hlt
      clear hc
      obtain ⟨c, hce⟩ : ∃ c, nth ls k = c := ⟨_, rfl⟩
      rw [hce] at hck
      by_cases hc0 : 0 < c
      · have hb : decide (0 < c) = true := decide_eq_true hc0
        have hFf : F = false := by rw [← hF.out, anyF_true.2 ⟨k, by rw [hll.out]; exact hlt, by rw [hce]; exact hb⟩]; rfl
        subst hFf
        clear hF hp hce hc0
        go_wp2
        go_ret
        exact ⟨rfl, Below.refl _ _⟩
      · have hb : decide (0 < c) = false := decide_eq_false hc0
        have hp2 : ∀ i, i < k + 1 → posB (nth ls i) = false := fun i hi => by
          rcases Nat.lt_or_ge i k with h | h
          · exact hp.out i h
          · obtain rfl : i = k := by omega
            rw [hce]; exact hb
        replace hp2 := Lib.hid hp2
        clear hp hce hc0
        go_wp2
        go_round
        case rel => exact ⟨k + 1, by omega, by go_num, hp2⟩
        case measure => simp [intOf]; omega
    · obtain rfl : k = m := by omega
      have hVa : (!(va css rows ls 0)) = F := by
        have := hF.out
        rwa [anyF_false.2 (fun i hi => hp.out i (by rw [← hll.out]; exact hi)), Bool.not_false, Bool.true_and] at this
      replace hVa := Lib.hid hVa
      clear hF hp
      go_wp2
      go_loopw [8] (fun i wr => ∃ q : Nat, q ≤ n ∧ i = .int .i64 (q : Int) ∧ Hid (va css rows ls q = va css rows ls 0) ∧ Below w.heap.size w wr) (fun i _ => n - (intOf i).toNat)
      case atStart => exact ⟨0, Nat.zero_le _, rfl, Lib.hid rfl, Below.refl _ _⟩
      case round =>
        obtain ⟨q, hq, rfl, hq0, hB⟩ := hrel
        by_cases hlq : q < n
        · have hqb : decide ((q : Int) < (n : Int)) = true := decide_eq_true (by omega)
          have hql : q < css.length := by rw [hn.out]; exact hlq
          have hT : Hid (vp css rows ls q 0 = true → F = false) := Lib.hid (fun h => by rw [← hVa.out, ← hq0.out, va_hit hql h]; rfl)
          have hN : Hid (vp css rows ls q 0 = false → va css rows ls (q + 1) = va css rows ls 0) := Lib.hid (fun h => (va_next hql h).symm.trans hq0.out)
          clear hq0
          go_wp2
          go_loopw [9] (fun i wr => ∃ p : Nat, p ≤ k ∧ i = .int .i64 (p : Int) ∧ Hid (vp css rows ls q p = vp css rows ls q 0) ∧ Below w.heap.size w wr) (fun i _ => k - (intOf i).toNat)
          case atStart => exact ⟨0, Nat.zero_le _, rfl, Lib.hid rfl, hB⟩
          case round =>
            clear hB
            obtain ⟨p, hp, rfl, hp0, hB⟩ := hrel
            by_cases hlp : p < k
            · have hpb : decide ((p : Int) < (k : Int)) = true := decide_eq_true (by omega)
              obtain ⟨b1, o1, c1', he1, hc1⟩ := (hr0.out.mono hB).atN hrl.out hlq
              cases he1
              have x1 := hc1 q hlq
              obtain ⟨b2, o2, c2', he2, hc2⟩ := (hl0.out.mono hB).atN hll.out hlp
              cases he2
              have x2 := hc2 p hlp
              obtain ⟨b3, o3, c3', he3, _, hc3⟩ := (hv0.out.mono hB).atN hn.out hlq
              cases he3
              obtain ⟨x, x3, hx⟩ := hc3 q hlq
              obtain ⟨b4, o4, c4', rfl, hc4⟩ := hx.atN (hrow.out q hlq) (k := p) hlp
              have x4 := hc4 p hlp
              have v1 := hrb.out q
              have v2 := hlb.out p
              have v4 := hval.out q p
              have L1 := @vp_hit css rows ls q p (by rw [hll.out]; exact hlp)
              have L2 := @vp_next css rows ls q p (by rw [hll.out]; exact hlp)
              rw [hp0.out] at L1 L2
              generalize nth rows q = y1 at x1 v1 L1 L2
              generalize nth ls p = y2 at x2 v2 L1 L2
              generalize nth (nths css q) p = y4 at x4 v4 L1 L2
              have es : IntKind.i64.wrap (y1 + y2) = y1 + y2 := IntWalk.i64_in _ (by omega)
              clear hc1 hc2 hc3 hc4 hx hp0
              by_cases hbad : y4 < y1 + y2
              · have hb : decide (y4 < y1 + y2) = true := decide_eq_true hbad
                have hFf := hT.out (L1 hbad)
                subst hFf
                clear L1 L2 hbad
                go_wp2_with fail
                go_quiet (fail)
                go_wp2
                go_ret
                exact ⟨rfl, below_drewN hB _⟩
              · have hb : decide (y4 < y1 + y2) = false := decide_eq_false hbad
                have hp2 := Lib.hid (L2 hbad).symm
                clear L1 L2 hbad
                go_wp2_with fail
                go_quiet (fail)
                go_wp2
                go_roundw
                case rel => exact ⟨p + 1, by omega, by go_num, hp2, below_drewN hB _⟩
                case measure => simp [intOf]; omega
            · obtain rfl : p = k := by omega
              have hn2 := Lib.hid (hN.out (hp0.out.symm.trans (vp_end (by rw [hll.out]; exact Nat.le_refl _))))
              clear hp0 hT hN
              go_wp2
              go_roundw
              case rel => exact ⟨q + 1, by omega, by go_num, hn2, hB⟩
              case measure => simp [intOf]; omega
        · obtain rfl : q = n := by omega
          have hFt : F = true := by rw [← hVa.out, ← hq0.out, va_end (by rw [hn.out]; exact Nat.le_refl _)]; rfl
          subst hFt
          clear hVa hq0
          go_wp2
          go_ret
          exact ⟨rfl, hB⟩
end Go.Proofs.Ytoendfpfnfeccaa
