/- The contract of Partial for right costs. Conditions: lists that fit into memory. -/
import Derived.Test.YtoendfpfnfeccaaW13
namespace Go.Proofs.Ytoendfpfnfeccaa
open Go.RowKit Go.Shelf

set_option maxRecDepth 100000 in
set_option maxHeartbeats 4000000 in
theorem Partial_ok (v : Value) (css : List (List Int)) (skip : Int) (w : World) (hv : SlSl w v css) (hf : CsFit css) (hd : ckP css skip = 0) : Calls Try.prog 17 #[v, .int .i64 skip] w (ResPost css (some skip) w) := by
  have hok := (ckP_ok hd).1
  have hskip := (ckP_ok hd).2
  have hB : Below w.heap.size w (w.alloc (.cells #[.slice none 0 0, .int .i64 0, .slice none 0 0, .slice none 0 0] 32)) := (Below.refl _ w).alloc (Nat.le_refl _) _
  have b1 := BoxC.new w 32 #[.slice none 0 0, .int .i64 0, .slice none 0 0, .slice none 0 0]
  have hck := checkPartial_any v css skip _ (hv.mono hB) hf
  rw [hd] at hck
  have hcol := fun w' (hb : Below w.heap.size w w') => columns_any v css w' (hv.mono hb) hf.l
  have hv0 := Lib.hid hv
  obtain ⟨i0, hi, hz0, hz1, hz2⟩ := info_parts info3
  obtain ⟨n, hn⟩ : ∃ n, css.length = n := ⟨_, rfl⟩
  obtain ⟨m, hm⟩ : ∃ m, colN css = m := ⟨_, rfl⟩
  obtain ⟨M, hM⟩ : ∃ M, colN (wides css skip) = M := ⟨_, rfl⟩
  have hn60 := hok.n
  have hm120 := hok.m
  rw [hn] at hn60
  rw [hm] at hm120 hcol
  have hMp : 0 < n → M = m + (n + 1) := fun h => by rw [← hM, wides_col (by omega), hm, hn]
  have hM0 : n = 0 → M = 0 ∧ m = 0 := fun h => by
    obtain rfl : css = [] := List.eq_nil_of_length_eq_zero (hn.trans h)
    exact ⟨hM.symm, hm.symm⟩
  have hM200 : M ≤ 200 := by
    rcases Nat.eq_zero_or_pos n with h | h
    · have := (hM0 h).1; omega
    · have := hMp h; omega
  have hnM : n ≤ M := by
    rcases Nat.eq_zero_or_pos n with h | h
    · omega
    · have := hMp h; omega
  have hrow := fun k (h : k < n) => (hok.row k (by omega)).trans hm
  have hsv := fun w' gw (us : Array Value) (h : WideOk css skip gw n n us w') => solve_any (rowS gw n) (wides css skip) w' (h.sl hn) (by rw [wides_len]; omega) (by omega) (by rw [wides_len]; omega)
    (fun i hi' => by
      rw [wides_len] at hi'
      rw [wides_row hi', wides_col (by omega), List.length_append, hok.row i hi']
      simp)
    (fun r k => by
      show -1000000000 ≤ nth (nths (wides css skip) (r - 1)) (k - 1) ∧ nth (nths (wides css skip) (r - 1)) (k - 1) ≤ 1000000000
      rcases Nat.lt_or_ge (r - 1) css.length with h1 | h1
      · rw [wides_row h1]
        rcases Nat.lt_or_ge (k - 1) (nths css (r - 1)).length with h2 | h2
        · rw [nth_append_lt h2]; exact hok.val _ _
        · obtain ⟨j, hj⟩ := Nat.exists_eq_add_of_le h2
          rw [hj, nth_append_ge]
          rcases Nat.lt_or_ge j (css.length + 1) with h3 | h3
          · rw [nth_rep h3]; exact hskip
          · rw [nth_over (by simp; omega)]; omega
      · have : nths (wides css skip) (r - 1) = [] := by
          have := wides_len (css := css) (skip := skip)
          simp [nths, show (wides css skip).length ≤ r - 1 by omega]
        rw [this, nth_over (by simp)]; omega)
  rw [wides_len, hn, hM] at hsv
  have hrowc := hok.row
  obtain ⟨av, cv, rfl⟩ := hv.lenN hn
  have hmw : ∀ X : World, (Instr.makeSlice 23 (.int .i64 (n : Int)) (.int .i64 (n : Int))).run Try.prog X = .ok (rowS X.heap.size n) (X.alloc (.cells (madeCells #[.slice none 0 0] n) 24)) := run_make23 n (by omega)
  replace hck := Lib.hid hck
  replace hcol := Lib.hid hcol
  replace hsv := Lib.hid hsv
  replace hrow := Lib.hid hrow
  replace hrowc := Lib.hid hrowc
  replace hM := Lib.hid hM
  replace hm := Lib.hid hm
  replace hn := Lib.hid hn
  replace hM0 := Lib.hid hM0
  replace hMp := Lib.hid hMp
  clear hv hf hd hok hskip
  go_enter Try.func17, Try.ntmps17
  go_wp2_with fail
  refine hck.out.mono ?_
  rintro e w1 ⟨rfl, hb1⟩
  have hB1 := hB.trans (hb1.mono hB.size)
  have b11 := b1.grown hb1
  have hl1 := b11.lt
  have hcl1 := Lib.hid (hcol.out _ hB1)
  clear hck hb1 hB b1 hcol
  go_wp2_with fail
  refine hcl1.out.mono ?_
  rintro e w1' ⟨rfl, rfl⟩
  have hW0 := WideOk.new (css := css) (skip := skip) (n := n) (X := w1)
  have hB2 := hB1.alloc hB1.size (.cells (madeCells #[.slice none 0 0] n) 24)
  have b12 := b11.alloc (.cells (madeCells #[.slice none 0 0] n) 24)
  go_wp2_with fail
  clear hmw hcl1
  generalize w1.alloc (.cells (madeCells #[.slice none 0 0] n) 24) = w2 at hW0 hB2 b12 ⊢
  generalize w1.heap.size = gw at hW0 hl1 ⊢
  generalize madeCells #[.slice none 0 0] n = us0 at hW0
  clear b11 hB1
  go_loopw [28] (fun i wr => ∃ (k : Nat) (us : Array Value), k ≤ n ∧ i = .int .i64 (k : Int) ∧ WideOk css skip gw n k us wr ∧ BoxC wr w.heap.size 32 #[.slice none 0 0, .int .i64 0, .slice none 0 0, .slice none 0 0] ∧ Below w.heap.size w wr) (fun i _ => n - (intOf i).toNat)
  case atStart => exact ⟨0, _, Nat.zero_le _, rfl, hW0, b12, hB2⟩
  case round =>
    clear hW0 b12 hB2
    obtain ⟨k, us, hk, rfl, hW, bR, hB⟩ := hrel
    by_cases hlt : k < n
    · have hkb : decide ((k : Int) < (n : Int)) = true := decide_eq_true (by omega)
      obtain ⟨b3, o3, c3', he3, hb3, hc3⟩ := hv0.out.atN hn.out hlt
      cases he3
      obtain ⟨x, x3w, hx⟩ := hc3 k hlt
      have hxl := hrow.out k hlt
      have hcn := clone_any x (nths css k) wr (hx.mono hB) (by rw [hxl]; omega)
      obtain ⟨ax, cx, rfl⟩ := hx.lenV hxl
      have x3 := (hB.cell (p := ⟨b3, o3 + k, none⟩) hb3).trans x3w
      have hgwl := hW.b.lt
      have hwl : (wideF css skip k).length = m + (n + 1) := by unfold wideF; simp [hxl, hn.out]
      have hwe : wideF css skip k = nths css k ++ List.replicate (n + 1) skip := by unfold wideF; rw [hn.out]
      replace hcn := Lib.hid hcn
      replace hxl := Lib.hid hxl
      replace hwl := Lib.hid hwl
      replace hwe := Lib.hid hwe
      clear hc3 hx x3w
      go_wp2_with fail
      refine hcn.out.mono ?_
      rintro e w3 ⟨v1, rfl, hown, hb3'⟩
      have hB3 := hB.trans (hb3'.mono hB.size)
      have hs3 := hb3'.size
      have c4 := BoxC.new w3 3 #[.int .i64 skip]
      have hrp : Calls Try.prog 38 #[.slice (some ⟨w3.heap.size, 0, none⟩) 1 1, .int .i64 ((n : Int) + 1)] (w3.alloc (.cells #[.int .i64 skip] 3)) (RepPost skip (n + 1) (w3.alloc (.cells #[.int .i64 skip] 3))) := repeat_any w3.heap.size skip (n + 1) (by omega) (by omega) _ (c4.cell 0 rfl)
      have hlow := ownsRow_low hown
      rw [hxl.out] at hown
      replace hrp := Lib.hid hrp
      clear c4 hcn
      go_wp2_with fail
      refine hrp.out.mono ?_
      rintro e w5 ⟨g, rfl, hg, hb5⟩
      have hb35 : Below w3.heap.size w3 w5 := ((Below.refl _ w3).alloc (Nat.le_refl _) _).trans (hb5.mono (by simp))
      have hb05 : Below wr.heap.size wr w5 := hb3'.trans (hb35.mono hb3'.size)
      have hown5 := ownsRow_kept hown (below_grown hb35) (fun _ _ => by simp)
      have hgn := hg.num ⟨_, _, rfl⟩
      have hW5 := hW.below hb05
      have bR5 := bR.grown hb05
      have hB5 := hB.trans (hb05.mono hB.size)
      have hs5 := hb05.size
      have hbl := bR.lt
      have hWl := Lib.hid (fun j u b => hW.lt (j := j) (u := u) (b := b))
      replace hlow := Lib.hid hlow
      obtain ⟨a6, l6, cp6, hus⟩ := hW.s k hlt
      replace hus := Lib.hid hus
      clear hrp hown hg hb5 hb35 hb05 hB3 hb3' hs3 hW bR x3
      go_wp2_with (at_builtin; refine wpList_app _ rfl _ _ 24 rfl wr.heap.size i0 _ Try.underlying24 hi hz0 hz1 hz2 rfl v1 m (nths css k) rfl hown5 _ (List.replicate (n + 1) skip) rfl hgn (by simp; omega) (by omega) ?_; intro v6 w6 hown6 hgr6; have bR6 := bR5.kept hgr6 (fun e => by have := hlow.out _ e.symm; omega); have hW6 := hW5.kept hgr6 (fun e => by have := hlow.out _ e.symm; omega) (fun j u b hj hu hb e => by have h1 := hlow.out _ e; have h2 := hWl.out j u b hj hu hb; omega); have hB6 := hB5.grown hgr6 hB5.size (fun g e => by have := hlow.out _ e; omega); simp only [List.length_replicate] at hown6; obtain ⟨g6, cap6, rfl, hg6a, hg6b⟩ := hown6.form (by omega); have hn6 : NumSl .i64 w6 (.slice (some ⟨g6, 0, none⟩) (m + (n + 1)) cap6) (wideF css skip k) := ownsRow_num (by rw [hwl.out, hwe.out]; exact hown6); have t1 := hW6.b.cell k hus.out; have t2 := hW6.b.frozen k; have hW7 := hW6.put hlt hn6 (own_gt (by omega)); have bR7 := bR6.other (p := ⟨gw, k, none⟩) (by show w.heap.size ≠ gw; omega) (.slice (some ⟨g6, 0, none⟩) (m + (n + 1)) cap6); have hB7 := hB6.setCell (p := ⟨gw, k, none⟩) (by show w.heap.size ≤ gw; omega) (.slice (some ⟨g6, 0, none⟩) (m + (n + 1)) cap6); clear hown6 hgr6 bR6 hW6 hB6 hn6)
      go_roundw
      case rel => exact ⟨k + 1, _, by omega, by go_num, hW7, bR7, hB7⟩
      case measure => simp [intOf]; omega
    · obtain rfl : k = n := by omega
      have hsvk := Lib.hid (hsv.out wr gw us hW)
      clear hsv hW
      go_wp2_with fail
      refine hsvk.out.mono ?_
      rintro e w7 ⟨gc, gu, gv, tot, cs, us', vs, rfl, hMm, hS⟩
      have hB7 := hB.trans (hMm.bl.mono hB.size)
      have hfar := hMm.far bR.lt
      have bR7 := bR.grown hMm.bl
      have hB1l := bR.lt
      have hM7 := hMm.low hB
      have hl1 : 0 < k → gc < w7.heap.size := fun h => (hMm.c.lt h).2
      have hl2 := (hMm.u.lt (by omega)).2
      have hl3 := (hMm.v.lt (by omega)).2
      have hg1 : 0 < k → wr.heap.size ≤ gc := fun h => (hMm.c.lt h).1
      have hg2 := (hMm.u.lt (by omega)).1
      have hg3 := (hMm.v.lt (by omega)).1
      have hs7 := hMm.bl.size
      obtain ⟨Av, hAv⟩ : ∃ Av, off1 gv M = Av := ⟨_, rfl⟩
      have hres : resV gc gu gv k M tot = .agg #[rowS gc k, .int .i64 tot, cut1 gu k, .slice Av M M] := by
        unfold resV cut1
        rw [hAv]
      rw [hres]
      have hPa : ∀ z : Value, PtM w k M gc gu gv w7.heap.size z tot cs us' vs (w7.alloc (.cells #[rowS gc k, .int .i64 tot, cut1 gu k, z] 32)) := fun z =>
        ⟨hM7.below ((Below.refl _ w7).alloc (Nat.le_refl _) _), bR7.alloc _, BoxC.new _ _ _⟩
      have hP := hPa (.slice Av M M)
      replace hPa := Lib.hid hPa
      have hPS : PtS w k gc gu gv w7.heap.size := ⟨fun h => by have := hg1 h; omega, by omega, by omega, by omega, fun h => by have := hl1 h; omega, by omega, by omega⟩
      have hul := hMm.u.1
      have hvl := hMm.v.1
      have hcl := hMm.c.1
      clear hB7 hfar bR7 hM7 hl1 hl2 hl3 hg1 hg2 hg3 hs7 hMm bR hB hres
      replace hul := Lib.hid hul
      replace hvl := Lib.hid hvl
      replace hcl := Lib.hid hcl
      replace hPS := Lib.hid hPS
      rcases Nat.eq_zero_or_pos k with h0 | h0
      · have hnb : decide ((0 : Int) < (k : Int)) = false := decide_eq_false (by omega)
        have hnb2 : decide (0 < k) = false := decide_eq_false (by omega)
        have hR := part_zero (skip := skip) hn.out hm.out h0 hul.out hcl.out hS.out
        have hpv : ∀ cs' Y, SolMem w k M gc gu gv cs' us' vs Y → NumSl .i64 Y (.slice Av M M) ((vs.drop 1).take m) := fun cs' Y _ => by
          obtain ⟨q1, q2⟩ := hM0.out h0
          subst q1 q2
          exact .inl ⟨⟨_, _, rfl⟩, rfl⟩
        replace hR := Lib.hid hR
        replace hpv := Lib.hid hpv
        replace h0 := Lib.hid h0
        replace hAv := Lib.hid hAv
        go_wp2_with fail
        obtain ⟨Ap, Lp, Cp, hP, hpv⟩ : ∃ Ap Lp Cp, PtM w k M gc gu gv w7.heap.size (.slice Ap Lp Cp) tot cs us' vs (w7.alloc (.cells #[rowS gc k, .int .i64 tot, cut1 gu k, .slice Av M M] 32)) ∧ Hid (∀ cs' Y, SolMem w k M gc gu gv cs' us' vs Y → NumSl .i64 Y (.slice Ap Lp Cp) ((vs.drop 1).take m)) := ⟨_, _, _, hP, hpv⟩
        clear hPa
        generalize w7.alloc (.cells #[rowS gc k, .int .i64 tot, cut1 gu k, .slice Av M M] 32) = X at hP ⊢
        generalize w7.heap.size = B2 at hP hPS ⊢
        go_loopw [59] (fun i wr => ∃ (q : Nat) (cs' : List Int), q ≤ k ∧ i = .int .i64 (q : Int) ∧ PtM w k M gc gu gv B2 (.slice Ap Lp Cp) tot cs' us' vs wr ∧ Hid (ShutTo m q cs cs')) (fun i _ => k - (intOf i).toNat)
        case atStart => exact ⟨0, cs, Nat.zero_le _, rfl, hP, Lib.hid ShutTo.start⟩
        case round =>
          clear hP
          obtain ⟨q, cs', hq, rfl, hP, hSh⟩ := hrel
          have p0 := hP.b2.cell 0 rfl
          by_cases hlq : q < k
          · have hqb : decide ((q : Int) < (k : Int)) = true := decide_eq_true (by omega)
            have hql : q < cs.length := by rw [hcl.out]; exact hlq
            have hcc := hP.m.c.cell (i := q) hlq
            rw [hSh.out.at hql] at hcc
            have hcf := hP.m.c.frozen (by omega) q
            have L1 := hSh.out.put hql (m := m)
            have L2 := hSh.out.skip (k := q) (m := m)
            generalize nth cs q = c at hcc L1 L2
            have hP2 := hP.setC hPS.out (by omega) q (-1)
            by_cases hmc : (m : Int) ≤ c
            · have hmb : decide ((m : Int) ≤ c) = true := decide_eq_true hmc
              replace L1 := Lib.hid (L1 hmc)
              clear L2 hSh hmc
              go_wp2_with fail
              go_roundw
              case rel => exact ⟨q + 1, _, by omega, by go_num, hP2, L1⟩
              case measure => simp [intOf]; omega
            · have hmb : decide ((m : Int) ≤ c) = false := decide_eq_false hmc
              replace L2 := Lib.hid (L2 hmc)
              clear L1 hSh hmc hP2
              go_wp2_with fail
              go_roundw
              case rel => exact ⟨q + 1, cs', by omega, by go_num, hP, L2⟩
              case measure => simp [intOf]; omega
          · obtain rfl : q = k := by omega
            have hcs : cs' = shut m cs := ShutTo.done (by rw [hcl.out]; exact hSh.out)
            have hS2 := hPS.out
            have hMz := hP.m.put' (B := w.heap.size) (Nat.le_refl _) (fun h => by have := hS2.c h; omega) (by have := hS2.u; omega) (by have := hS2.v; omega) (rowS gc q) (.int .i64 tot) (cut1 gu q) (.slice Ap Lp Cp)
            have qz := hP.b1.put4 (rowS gc q) (.int .i64 tot) (cut1 gu q) (.slice Ap Lp Cp)
            rw [hcs] at hMz
            replace hcs := Lib.hid hcs
            clear hS2
            have p1 := hP.b2.cell 1 rfl
            have p2 := hP.b2.cell 2 rfl
            have p3 := hP.b2.cell 3 rfl
            have z0 := hP.b1.cell 0 rfl
            have z1 := hP.b1.cell 1 rfl
            have z2 := hP.b1.cell 2 rfl
            have z3 := hP.b1.cell 3 rfl
            have y0 := hP.b1.frozen 0
            have y1 := hP.b1.frozen 1
            have y2 := hP.b1.frozen 2
            have y3 := hP.b1.frozen 3
            go_wp2
            have e0 := qz.cell 0 rfl
            have e1 := qz.cell 1 rfl
            have e2 := qz.cell 2 rfl
            have e3 := qz.cell 3 rfl
            exact bodyPost_ret (v := .tuple #[resB (rowS gc q) tot (cut1 gu q) (.slice Ap Lp Cp), .int .i64 0]) (by simp [results, Try.results17, go_sem, e0, e1, e2, e3, resB]) rfl
              ⟨rowS gc q, cut1 gu q, .slice Ap Lp Cp, tot, _, _, _, rfl, hMz.cs_sl, hMz.us_sl, hpv.out _ _ hMz, hMz.bl, hR⟩
      · have hnb : decide ((0 : Int) < (k : Int)) = true := decide_eq_true (by omega)
        have hnb2 : decide (0 < k) = true := decide_eq_true (by omega)
        have hR := part_says (skip := skip) hrowc.out hn.out hm.out hM.out h0 hul.out hvl.out hcl.out hS.out
        have hpv : ∀ cs' Y, SolMem w k M gc gu gv cs' us' vs Y → NumSl .i64 Y (.slice (some ⟨gv, 1, none⟩) m M) ((vs.drop 1).take m) := fun cs' Y h => h.take (by have := hMp.out h0; omega)
        have hmM : m ≤ M := by have := hMp.out h0; omega
        have hoff : off1 gv M = some ⟨gv, 1, none⟩ := by unfold off1; rw [if_neg (by have := hMp.out h0; omega)]
        obtain rfl : Av = some ⟨gv, 1, none⟩ := hAv.symm.trans hoff
        clear hAv
        have hmMi : (m : Int) ≤ (M : Int) := by omega
        have t3 := hP.b2.cell 3 rfl
        have t4 := hP.b2.frozen 3
        have hP2 := hPa.out (.slice (some ⟨gv, 1, none⟩) m M)
        replace hR := Lib.hid hR
        replace hpv := Lib.hid hpv
        replace hoff := Lib.hid hoff
        replace h0 := Lib.hid h0
        clear hP
        go_wp2_with fail
        clear t3 t4
        obtain ⟨Ap, Lp, Cp, hP, hpv⟩ : ∃ Ap Lp Cp, PtM w k M gc gu gv w7.heap.size (.slice Ap Lp Cp) tot cs us' vs (w7.alloc (.cells #[rowS gc k, .int .i64 tot, cut1 gu k, .slice (some ⟨gv, 1, none⟩) m M] 32)) ∧ Hid (∀ cs' Y, SolMem w k M gc gu gv cs' us' vs Y → NumSl .i64 Y (.slice Ap Lp Cp) ((vs.drop 1).take m)) := ⟨_, _, _, hP2, hpv⟩
        clear hP2 hPa
        generalize w7.alloc (.cells #[rowS gc k, .int .i64 tot, cut1 gu k, .slice (some ⟨gv, 1, none⟩) m M] 32) = X at hP ⊢
        generalize w7.heap.size = B2 at hP hPS ⊢
        go_loopw [59] (fun i wr => ∃ (q : Nat) (cs' : List Int), q ≤ k ∧ i = .int .i64 (q : Int) ∧ PtM w k M gc gu gv B2 (.slice Ap Lp Cp) tot cs' us' vs wr ∧ Hid (ShutTo m q cs cs')) (fun i _ => k - (intOf i).toNat)
        case atStart => exact ⟨0, cs, Nat.zero_le _, rfl, hP, Lib.hid ShutTo.start⟩
        case round =>
          clear hP
          obtain ⟨q, cs', hq, rfl, hP, hSh⟩ := hrel
          have p0 := hP.b2.cell 0 rfl
          by_cases hlq : q < k
          · have hqb : decide ((q : Int) < (k : Int)) = true := decide_eq_true (by omega)
            have hql : q < cs.length := by rw [hcl.out]; exact hlq
            have hcc := hP.m.c.cell (i := q) hlq
            rw [hSh.out.at hql] at hcc
            have hcf := hP.m.c.frozen (by omega) q
            have L1 := hSh.out.put hql (m := m)
            have L2 := hSh.out.skip (k := q) (m := m)
            generalize nth cs q = c at hcc L1 L2
            have hP2 := hP.setC hPS.out (by omega) q (-1)
            by_cases hmc : (m : Int) ≤ c
            · have hmb : decide ((m : Int) ≤ c) = true := decide_eq_true hmc
              replace L1 := Lib.hid (L1 hmc)
              clear L2 hSh hmc
              go_wp2_with fail
              go_roundw
              case rel => exact ⟨q + 1, _, by omega, by go_num, hP2, L1⟩
              case measure => simp [intOf]; omega
            · have hmb : decide ((m : Int) ≤ c) = false := decide_eq_false hmc
              replace L2 := Lib.hid (L2 hmc)
              clear L1 hSh hmc hP2
              go_wp2_with fail
              go_roundw
              case rel => exact ⟨q + 1, cs', by omega, by go_num, hP, L2⟩
              case measure => simp [intOf]; omega
          · obtain rfl : q = k := by omega
            have hcs : cs' = shut m cs := ShutTo.done (by rw [hcl.out]; exact hSh.out)
            have hS2 := hPS.out
            have hMz := hP.m.put' (B := w.heap.size) (Nat.le_refl _) (fun h => by have := hS2.c h; omega) (by have := hS2.u; omega) (by have := hS2.v; omega) (rowS gc q) (.int .i64 tot) (cut1 gu q) (.slice Ap Lp Cp)
            have qz := hP.b1.put4 (rowS gc q) (.int .i64 tot) (cut1 gu q) (.slice Ap Lp Cp)
            rw [hcs] at hMz
            replace hcs := Lib.hid hcs
            clear hS2
            have p1 := hP.b2.cell 1 rfl
            have p2 := hP.b2.cell 2 rfl
            have p3 := hP.b2.cell 3 rfl
            have z0 := hP.b1.cell 0 rfl
            have z1 := hP.b1.cell 1 rfl
            have z2 := hP.b1.cell 2 rfl
            have z3 := hP.b1.cell 3 rfl
            have y0 := hP.b1.frozen 0
            have y1 := hP.b1.frozen 1
            have y2 := hP.b1.frozen 2
            have y3 := hP.b1.frozen 3
            go_wp2
            have e0 := qz.cell 0 rfl
            have e1 := qz.cell 1 rfl
            have e2 := qz.cell 2 rfl
            have e3 := qz.cell 3 rfl
            exact bodyPost_ret (v := .tuple #[resB (rowS gc q) tot (cut1 gu q) (.slice Ap Lp Cp), .int .i64 0]) (by simp [results, Try.results17, go_sem, e0, e1, e2, e3, resB]) rfl
              ⟨rowS gc q, cut1 gu q, .slice Ap Lp Cp, tot, _, _, _, rfl, hMz.cs_sl, hMz.us_sl, hpv.out _ _ hMz, hMz.bl, hR⟩
end Go.Proofs.Ytoendfpfnfeccaa
