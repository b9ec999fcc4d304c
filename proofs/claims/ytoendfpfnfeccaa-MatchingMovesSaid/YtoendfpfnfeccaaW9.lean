/- The contracts of potentials and Bound. Conditions: right costs. -/
import Derived.Test.YtoendfpfnfeccaaW8
namespace Go.Proofs.Ytoendfpfnfeccaa
open Go.RowKit Go.Shelf

set_option maxHeartbeats 400000 in
theorem posB_any (n : Int) (w : World) : Calls Try.prog 47 #[.int .i64 n] w (BoolBelow (posB n) w) := by
  go_enter Try.func47, Try.ntmps47
  go_wp2
  go_ret
  exact ⟨rfl, Below.refl _ _⟩
/-- two lists that are passed on -/
theorem slsl_two {w : World} {v1 v2 : Value} {xs ys : List Int} (h1 : NumSl .i64 w v1 xs) (h2 : NumSl .i64 w v2 ys) (t : TypeId) : SlSl (w.alloc (.cells #[v1, v2] t)) (.slice (some ⟨w.heap.size, 0, none⟩) 2 2) [xs, ys] := by
  have hA := (Below.refl w.heap.size w).alloc (Nat.le_refl _) (.cells #[v1, v2] t)
  have hb := BoxC.new w t #[v1, v2]
  refine .inr ⟨w.heap.size, 0, 2, rfl, hb.lt, fun i hi => ?_⟩
  rw [Nat.zero_add]
  match i, hi with
  | 0, _ => exact ⟨v1, hb.cell 0 rfl, h1.mono hA⟩
  | 1, _ => exact ⟨v2, hb.cell 1 rfl, h2.mono hA⟩
theorem szE_five {css : List (List Int)} {rows ls : List Int} (h : rows.length ≠ css.length ∨ ls.length ≠ colN css) : potF css rows ls = (0, 5) := by unfold potF szE; rw [if_pos h]; rfl
theorem potF_three {css : List (List Int)} {rows ls : List Int} (h : ¬ (rows.length ≠ css.length ∨ ls.length ≠ colN css)) (h2 : anyF badP (rows ++ ls) = true) : potF css rows ls = (0, 3) := by
  unfold potF szE
  rw [anyF_append, Bool.or_eq_true] at h2
  rw [if_neg h, if_pos h2]
  rfl
theorem szE_ok {css : List (List Int)} {rows ls : List Int} (h : ¬ (rows.length ≠ css.length ∨ ls.length ≠ colN css)) (h2 : anyF badP (rows ++ ls) = false) : szE css rows ls = 0 := by
  unfold szE
  rw [anyF_append, Bool.or_eq_false_iff] at h2
  rw [if_neg h]
  simp [h2.1, h2.2]
theorem potF_cert {css : List (List Int)} {rows ls : List Int} (h : ¬ (rows.length ≠ css.length ∨ ls.length ≠ colN css)) (h2 : anyF badP (rows ++ ls) = false) (h3 : valF css rows ls = false) : potF css rows ls = (0, 20) := by
  unfold potF
  simp [szE_ok h h2, h3]
theorem potF_ok {css : List (List Int)} {rows ls : List Int} (h : ¬ (rows.length ≠ css.length ∨ ls.length ≠ colN css)) (h2 : anyF badP (rows ++ ls) = false) (h3 : valF css rows ls = true) : potF css rows ls = (sumF rows ls, 0) := by
  unfold potF
  simp [szE_ok h h2, h3]

set_option maxRecDepth 100000 in
set_option maxHeartbeats 4000000 in
theorem potentials_any (v r l : Value) (css : List (List Int)) (rows ls : List Int) (w : World) (hv : SlSl w v css) (hr : NumSl .i64 w r rows) (hl : NumSl .i64 w l ls) (hok : CsOk css) :
    Calls Try.prog 39 #[v, r, l] w (PairBelow (potF css rows ls) w) := by
  have hcol := columns_any v css w hv (by have := hok.n; omega)
  obtain ⟨F, hF⟩ : ∃ F, potF css rows ls = F := ⟨_, rfl⟩
  rw [hF]
  obtain ⟨n, hn⟩ : ∃ n, css.length = n := ⟨_, rfl⟩
  obtain ⟨m, hm⟩ : ∃ m, colN css = m := ⟨_, rfl⟩
  obtain ⟨rl, hrl⟩ : ∃ rl, rows.length = rl := ⟨_, rfl⟩
  obtain ⟨ll, hll⟩ : ∃ ll, ls.length = ll := ⟨_, rfl⟩
  have hn60 := hok.n
  have hm120 := hok.m
  have hv0 := Lib.hid hv
  have hr0 := Lib.hid hr
  have hl0 := Lib.hid hl
  have hcc := fun w' (hb : Below w.heap.size w w') (h : ls.length ≤ 4611686018427387904) => containsFunc_any .i64 47 #[] posB l ls w' (fun n w'' _ => posB_any n w'') (enters_of Try.func47 (by kernel_rfl) rfl) (hl.mono hb) h
  have hcat := slsl_two hr hl 24
  rw [hn] at hn60
  rw [hm] at hm120 hcol
  have hrow := Lib.hid (fun k (h : k < n) => (hok.row k (by omega)).trans hm)
  have hval := Lib.hid hok.val
  obtain ⟨av, cv, rfl⟩ := hv.lenN hn
  obtain ⟨ar, cr, rfl⟩ := hr.lenV hrl
  obtain ⟨al, cl, rfl⟩ := hl.lenV hll
  replace hcol := Lib.hid hcol
  replace hF := Lib.hid hF
  clear hv hr hl hok
  by_cases h1 : rl = n
  · by_cases h2 : ll = m
    · have hsz : ¬ (rows.length ≠ css.length ∨ ls.length ≠ colN css) := by rw [hrl, hll, hn, hm]; simp [h1, h2]
      subst h1 h2
      have hcon := concat_any _ _ _ hcat (by simp) (by simp [joinTo, nths, hrl, hll]; omega)
      rw [show joinTo [rows, ls] [rows, ls].length = rows ++ ls by simp [joinTo, nths]] at hcon
      have hA := (Below.refl w.heap.size w).alloc (Nat.le_refl _) (.cells #[.slice ar rl cr, .slice al ll cl] 24)
      have hzl : (rows ++ ls).length = rl + ll := by simp [hrl, hll]
      replace hsz := Lib.hid hsz
      replace hcon := Lib.hid hcon
      replace hcc := Lib.hid hcc
      replace hn := Lib.hid hn
      replace hm := Lib.hid hm
      replace hrl := Lib.hid hrl
      replace hll := Lib.hid hll
      replace hzl := Lib.hid hzl
      clear hcat
      go_enter Try.func39, Try.ntmps39
      go_wp2_with fail
      refine hcol.out.mono ?_
      rintro e w1 ⟨rfl, rfl⟩
      go_wp2_with fail
      refine hcon.out.mono ?_
      rintro e w2 ⟨u, rfl, hu, hb2⟩
      have hB := hA.trans (hb2.mono hA.size)
      clear hcol hcon hA hb2
      have hu0 := Lib.hid hu
      obtain ⟨au, cu, rfl⟩ := hu.lenV hzl.out
      clear hu
      go_wp2_with fail
      go_loop [8, 32] (fun s i => ∃ (k : Nat) (z : Int), k ≤ rl + ll ∧ i = .int .i64 (k : Int) ∧ s = .int .i64 z ∧ -((k : Int) * 1000000000000) ≤ z ∧ z ≤ (k : Int) * 1000000000000 ∧ Hid (z = sumN (nth (rows ++ ls)) k) ∧ Hid (∀ i, i < k → badP (nth (rows ++ ls) i) = false)) (fun _ i => rl + ll - (intOf i).toNat)
      case atStart => exact ⟨0, 0, Nat.zero_le _, rfl, rfl, by simp, by simp, Lib.hid rfl, Lib.hid (fun i hi => by omega)⟩
      case round =>
        obtain ⟨k, z, hk, rfl, rfl, hz1, hz2, hz, hp⟩ := hrel
        by_cases hlt : k < rl + ll
        · have hkb : decide ((k : Int) < (rl : Int) + (ll : Int)) = true := decide_eq_true (by omega)
          obtain ⟨b2, off2, cap2, he, hc⟩ := hu0.out.atN hzl.out hlt
          cases he
          have hck := hc k hlt
          clear hc
          obtain ⟨c, hce⟩ : ∃ c, nth (rows ++ ls) k = c := ⟨_, rfl⟩
          rw [hce] at hck
          by_cases hbad : badP c = true
          · have hF3 := hF.out.symm.trans (potF_three hsz.out (anyF_true.2 ⟨k, by rw [hzl.out]; exact hlt, by rw [hce]; exact hbad⟩))
            subst hF3
            clear hF hp hce hz
            by_cases hlo : c < -1000000000000
            · have hb1 : decide (c < -1000000000000) = true := decide_eq_true hlo
              clear hbad
              go_wp2
              go_ret2
              exact ⟨rfl, hB⟩
            · have hb1 : decide (c < -1000000000000) = false := decide_eq_false hlo
              have hb2 : decide (1000000000000 < c) = true := decide_eq_true (by
                rcases Int.lt_or_le 1000000000000 c with h | h
                · exact h
                · rw [badP_in (by omega)] at hbad; cases hbad)
              clear hbad
              go_wp2
              go_ret2
              exact ⟨rfl, hB⟩
          · rw [Bool.not_eq_true] at hbad
            have hin := badP_false hbad
            have hb1 : decide (c < -1000000000000) = false := decide_eq_false (by omega)
            have hb2 : decide (1000000000000 < c) = false := decide_eq_false (by omega)
            have hp2 : ∀ i, i < k + 1 → badP (nth (rows ++ ls) i) = false := fun i hi => by
              rcases Nat.lt_or_ge i k with h | h
              · exact hp.out i h
              · obtain rfl : i = k := by omega
                rw [hce]; exact hbad
            have hzs : Hid (z + c = sumN (nth (rows ++ ls)) (k + 1)) := by
              have := hz.out
              rw [this, ← hce]
              exact Lib.hid rfl
            replace hp2 := Lib.hid hp2
            clear hp hce hbad hz
            go_wp2
            go_round
            case rel => exact ⟨k + 1, z + c, by omega, by go_num, rfl, by omega, by omega, hzs, hp2⟩
            case measure => simp [intOf]; omega
        · obtain rfl : k = rl + ll := by omega
          have hany : anyF badP (rows ++ ls) = false := anyF_false.2 (fun i hi => hp.out i (by rw [← hzl.out]; exact hi))
          have hsum : z = sumF rows ls := by rw [hz.out, ← sumF_eq, hrl.out, hll.out]
          have hrb : ∀ k, -1000000000000 ≤ nth rows k ∧ nth rows k ≤ 1000000000000 := anyP_bd (by rw [anyF_append, Bool.or_eq_false_iff] at hany; exact hany.1)
          have hlb : ∀ k, -1000000000000 ≤ nth ls k ∧ nth ls k ≤ 1000000000000 := anyP_bd (by rw [anyF_append, Bool.or_eq_false_iff] at hany; exact hany.2)
          have hcert := Lib.hid (fun h => hF.out.symm.trans (potF_cert hsz.out hany h))
          have hgood := Lib.hid (fun h => (hF.out.symm.trans (potF_ok hsz.out hany h)).trans (by rw [← hsum]))
          have hcf := hcc.out _ hB (by rw [hll.out]; omega)
          obtain ⟨p, hpe⟩ : ∃ p, anyF posB ls = p := ⟨_, rfl⟩
          rw [hpe] at hcf
          replace hcf := Lib.hid hcf
          replace hrb := Lib.hid hrb
          replace hlb := Lib.hid hlb
          replace hpe := Lib.hid hpe
          clear hF hp hz hany hsum hu0
          have hkb : decide ((rl : Int) + (ll : Int) < (rl : Int) + (ll : Int)) = false := decide_eq_false (by omega)
          go_wp2_with fail
          refine hcf.out.mono ?_
          rintro e w3 ⟨rfl, hb3⟩
          have hB3 := hB.trans (hb3.mono hB.size)
          clear hcf hcc hB hb3
          cases p
          · have hcert2 := Lib.hid (fun (h : va css rows ls 0 = true) => hcert.out (by unfold valF; rw [h, Bool.not_true, Bool.and_false]))
            have hgood2 := Lib.hid (fun (h : va css rows ls 0 = false) => hgood.out (by unfold valF; rw [h, hpe.out]; rfl))
            clear hcert hgood hpe
            go_wp2
            go_loopw [50] (fun i wr => ∃ q : Nat, q ≤ rl ∧ i = .int .i64 (q : Int) ∧ Hid (va css rows ls q = va css rows ls 0) ∧ Below w.heap.size w wr) (fun i _ => rl - (intOf i).toNat)
            case atStart => exact ⟨0, Nat.zero_le _, rfl, Lib.hid rfl, hB3⟩
            case round =>
              clear hB3
              obtain ⟨q, hq, rfl, hq0, hB⟩ := hrel
              by_cases hlq : q < rl
              · have hqb : decide ((q : Int) < (rl : Int)) = true := decide_eq_true (by omega)
                have hql : q < css.length := by rw [hn.out]; exact hlq
                have hT : Hid (vp css rows ls q 0 = true → F = (0, 20)) := Lib.hid (fun h => hcert2.out (by rw [← hq0.out, va_hit hql h]))
                have hN : Hid (vp css rows ls q 0 = false → va css rows ls (q + 1) = va css rows ls 0) := Lib.hid (fun h => (va_next hql h).symm.trans hq0.out)
                obtain ⟨b3, o3, c3', he3, hb3, hc3⟩ := hv0.out.atN hn.out hlq
                cases he3
                obtain ⟨x, x3w, hx⟩ := hc3 q hlq
                have hx0 := Lib.hid hx
                obtain ⟨a4, c4', rfl⟩ := hx.lenV (hrow.out q hlq)
                have x3 := (hB.cell (p := ⟨b3, o3 + q, none⟩) hb3).trans x3w
                clear hq0 hc3 hx x3w
                go_wp2
                go_loopw [57] (fun i wr => ∃ p : Nat, p ≤ ll ∧ i = .int .i64 (p : Int) ∧ Hid (vp css rows ls q p = vp css rows ls q 0) ∧ Below w.heap.size w wr) (fun i _ => ll - (intOf i).toNat)
                case atStart => exact ⟨0, Nat.zero_le _, rfl, Lib.hid rfl, hB⟩
                case round =>
                  clear hB x3
                  obtain ⟨p, hp, rfl, hp0, hB⟩ := hrel
                  by_cases hlp : p < ll
                  · have hpb : decide ((p : Int) < (ll : Int)) = true := decide_eq_true (by omega)
                    obtain ⟨b1, o1, c1', he1, hc1⟩ := (hr0.out.mono hB).atN hrl.out hlq
                    cases he1
                    have x1 := hc1 q hlq
                    obtain ⟨b2, o2, c2', he2, hc2⟩ := (hl0.out.mono hB).atN hll.out hlp
                    cases he2
                    have x2 := hc2 p hlp
                    obtain ⟨b4, o4, c4'', he4, hc4⟩ := (hx0.out.mono hB).atN (hrow.out q hlq) (k := p) hlp
                    cases he4
                    have x4 := hc4 p hlp
                    have v1 := hrb.out q
                    have v2 := hlb.out p
                    have v4 := hval.out q p
                    have L1 := @vp_hit css rows ls q p (by rw [hll.out]; exact hlp)
                    have L2 := @vp_next css rows ls q p (by rw [hll.out]; exact hlp)
                    rw [hp0.out] at L1 L2
                    generalize nth rows q = y1 at x1 v1 L1 L2
                    generalize nth ls p = y2 at x2 v2 L1 L2
                    generalize nth (nths css q) p = y4 at x4 v4 L1 L2
                    have es : IntKind.i64.wrap (y1 + y2) = y1 + y2 := IntWalk.i64_in _ (by omega)
                    clear hc1 hc2 hc4 hp0
                    by_cases hbad : y4 < y1 + y2
                    · have hb : decide (y4 < y1 + y2) = true := decide_eq_true hbad
                      have hFf := hT.out (L1 hbad)
                      subst hFf
                      clear L1 L2 hbad hT hN hcert2 hgood2
                      go_wp2_with fail
                      go_quiet (fail)
                      go_wp2
                      go_ret2
                      exact ⟨rfl, below_drewN hB _⟩
                    · have hb : decide (y4 < y1 + y2) = false := decide_eq_false hbad
                      have hp2 := Lib.hid (L2 hbad).symm
                      clear L1 L2 hbad
                      go_wp2_with fail
                      go_quiet (fail)
                      go_wp2
                      go_roundw
                      case rel => exact ⟨p + 1, by omega, by go_num, hp2, below_drewN hB _⟩
                      case measure => simp [intOf]; omega
                  · obtain rfl : p = ll := by omega
                    have hn2 := Lib.hid (hN.out (hp0.out.symm.trans (vp_end (by rw [hll.out]; exact Nat.le_refl _))))
                    clear hp0 hT hN
                    go_wp2
                    go_roundw
                    case rel => exact ⟨q + 1, by omega, by go_num, hn2, hB⟩
                    case measure => simp [intOf]; omega
              · obtain rfl : q = rl := by omega
                have hFt := hgood2.out (hq0.out.symm.trans (va_end (by rw [hn.out]; exact Nat.le_refl _)))
                subst hFt
                clear hcert2 hgood2 hq0
                go_wp2
                go_ret2
                exact ⟨rfl, hB⟩
          · have hF20 := hcert.out (by unfold valF; rw [hpe.out]; rfl)
            subst hF20
            clear hcert hgood hpe
            go_wp2
            go_ret2
            exact ⟨rfl, hB3⟩
    · have hF5 := hF.out.symm.trans (szE_five (.inr (by rw [hll, hm]; exact h2)))
      have hb : ((ll : Int) != (m : Int)) = true := by simp; omega
      subst hF5 h1
      clear hF hrl hll hn hm hcc hcat h2
      go_enter Try.func39, Try.ntmps39
      go_wp2_with fail
      refine hcol.out.mono ?_
      rintro e w1 ⟨rfl, rfl⟩
      go_wp2
      go_ret2
      exact ⟨rfl, Below.refl _ _⟩
  · have hF5 := hF.out.symm.trans (szE_five (.inl (by rw [hrl, hn]; exact h1)))
    have hb : ((rl : Int) != (n : Int)) = true := by simp; omega
    subst hF5
    clear hF hrl hll hn hm hcc hcat h1 hcol
    go_enter Try.func39, Try.ntmps39
    go_wp2
    go_ret2
    exact ⟨rfl, Below.refl _ _⟩
end Go.Proofs.Ytoendfpfnfeccaa
