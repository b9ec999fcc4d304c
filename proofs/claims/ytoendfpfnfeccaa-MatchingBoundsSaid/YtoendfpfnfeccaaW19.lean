/- The contracts of Tight. Conditions: lists that fit into memory. -/
import Derived.Test.YtoendfpfnfeccaaW18
import Derived.Test.YtoendfpfnfeccaaP10
namespace Go.Proofs.Ytoendfpfnfeccaa
open Go.RowKit Go.Shelf

def pr (ps : List (Nat × Nat)) (q : Nat) : Nat × Nat := ps[q]?.getD (0, 0)
/-- v is a slice of pairs -/
def PrSl (w : World) (v : Value) (ps : List (Nat × Nat)) : Prop :=
  ((∃ a cap, v = .slice a 0 cap) ∧ ps = []) ∨ ∃ b off cap, v = .slice (some ⟨b, off, none⟩) ps.length cap ∧ b < w.heap.size ∧
    ∀ q, q < ps.length → w.cell? ⟨b, off + q * 2, none⟩ = some (.int .i64 ((pr ps q).1 : Int)) ∧ w.cell? ⟨b, off + q * 2 + 1, none⟩ = some (.int .i64 ((pr ps q).2 : Int))
theorem PrSl.mono {w w' : World} {v : Value} {ps : List (Nat × Nat)} (h : PrSl w v ps) (hb : Below w.heap.size w w') : PrSl w' v ps := by
  rcases h with h | ⟨b, off, cap, rfl, hl, hc⟩
  · exact .inl h
  · exact .inr ⟨b, off, cap, rfl, Nat.lt_of_lt_of_le hl hb.size, fun q hq => ⟨(hb.cell (p := ⟨b, off + q * 2, none⟩) hl).trans (hc q hq).1, (hb.cell (p := ⟨b, off + q * 2 + 1, none⟩) hl).trans (hc q hq).2⟩⟩
theorem PrSl.len {w : World} {v : Value} {ps : List (Nat × Nat)} (h : PrSl w v ps) : ∃ a cap, v = .slice a ps.length cap := by
  rcases h with ⟨⟨a, cap, rfl⟩, rfl⟩ | ⟨b, off, cap, rfl, _, _⟩
  · exact ⟨a, cap, rfl⟩
  · exact ⟨_, cap, rfl⟩
def prC (p : Nat × Nat) : List Value := [.int .i64 (p.1 : Int), .int .i64 (p.2 : Int)]
def prCells (ps : List (Nat × Nat)) : List Value := ps.flatMap prC
theorem prCells_len (ps : List (Nat × Nat)) : (prCells ps).length = ps.length * 2 := by
  induction ps with
  | nil => rfl
  | cons p ps ih =>
    show (prC p ++ prCells ps).length = _
    rw [List.length_append, ih]
    simp [prC]
    omega
theorem prCells_snoc (ps : List (Nat × Nat)) (p : Nat × Nat) : prCells (ps ++ [p]) = prCells ps ++ prC p := by simp [prCells]
theorem prCells_at : ∀ (ps : List (Nat × Nat)) (q j : Nat), q < ps.length → j < 2 → (prCells ps)[q * 2 + j]? = (prC (pr ps q))[j]?
  | [], q, j, h, _ => by simp at h
  | p :: ps, 0, j, _, hj => by
    show (prC p ++ prCells ps)[0 * 2 + j]? = _
    rw [List.getElem?_append_left (by simp [prC]; omega)]
    simp [pr]
  | p :: ps, q + 1, j, h, hj => by
    show (prC p ++ prCells ps)[(q + 1) * 2 + j]? = _
    rw [List.getElem?_append_right (by simp [prC]; omega)]
    have := prCells_at ps q j (by simp at h; omega) hj
    rw [show (q + 1) * 2 + j - (prC p).length = q * 2 + j by simp [prC]; omega, this]
    simp [pr]
theorem prSl_of {w : World} {base n : Nat} {v : Value} {ps : List (Nat × Nat)} (hn : ps.length = n) (h : w.ownsRow base 44 2 v n (prCells ps)) : PrSl w v ps := by
  subst hn
  rcases FlatSl.of_owns h with ⟨rfl, h0, _⟩ | ⟨b, cap, rfl, hl, hc⟩
  · exact .inl ⟨⟨_, _, rfl⟩, List.eq_nil_of_length_eq_zero h0⟩
  · refine .inr ⟨b, 0, cap, rfl, hl, fun q hq => ?_⟩
    have hg := fun j => prCells_at ps q j hq
    refine ⟨hc _ _ ?_, hc _ _ ?_⟩
    · exact (congrArg (fun q => (prCells ps)[q]?) (by omega)).trans (hg 0 (by omega))
    · exact (congrArg (fun q => (prCells ps)[q]?) (by omega)).trans (hg 1 (by omega))
theorem info44 : (Try.prog.info? 44).map (fun i => (i.zero, i.size, i.bytes)) = some (some (.agg #[.int .i64 0, .int .i64 0]), 2, 16) := by kernel_rfl
def TightPost (ps : List (Nat × Nat)) (d : Int) (w : World) (e : Ending) (X : World) : Prop := ∃ v, e = .returned (.tuple #[v, .int .i64 d]) ∧ PrSl X v ps ∧ Below w.heap.size w X

theorem bound_ok {css : List (List Int)} {rows ls : List Int} (h : (boundF css rows ls).2 = 0) : ckF css true = 0 ∧ SzOk css rows ls := by
  unfold boundF at h
  by_cases h0 : ckF css true = 0
  · rw [if_neg (by simp [h0])] at h
    refine ⟨h0, szOk_of ?_⟩
    unfold potF at h
    by_cases h1 : szE css rows ls = 0
    · exact h1
    · rw [if_pos h1] at h; exact absurd h h1
  · rw [if_pos h0] at h; exact absurd h h0
set_option maxHeartbeats 1000000 in
theorem Tight_err (v r l : Value) (css : List (List Int)) (rows ls : List Int) (w : World) (hv : SlSl w v css) (hr : NumSl .i64 w r rows) (hl : NumSl .i64 w l ls) (hf : CsFit css) (hd : (boundF css rows ls).2 ≠ 0) : Calls Try.prog 19 #[v, r, l] w (TightPost [] (boundF css rows ls).2 w) := by
  have hb := Bound_any v r l css rows ls w hv hr hl hf
  obtain ⟨av, cv, rfl⟩ := hv.len
  obtain ⟨ar, cr, rfl⟩ := hr.len
  obtain ⟨al, cl, rfl⟩ := hl.len
  obtain ⟨bd, d, hbd⟩ : ∃ bd d, boundF css rows ls = (bd, d) := ⟨_, _, rfl⟩
  rw [hbd] at hb hd ⊢
  simp only at hd ⊢
  have hdb : (d != 0) = true := by simp [hd]
  replace hb := Lib.hid hb
  replace hbd := Lib.hid hbd
  clear hv hr hl hf hd
  go_enter Try.func19, Try.ntmps19
  go_wp2_with fail
  refine hb.out.mono ?_
  rintro e w1 ⟨rfl, hb1⟩
  go_wp2
  go_ret2
  exact ⟨_, rfl, .inl ⟨⟨_, _, rfl⟩, rfl⟩, hb1⟩
set_option maxRecDepth 100000 in
set_option maxHeartbeats 4000000 in
theorem Tight_ok (v r l : Value) (css : List (List Int)) (rows ls : List Int) (w : World) (hv : SlSl w v css) (hr : NumSl .i64 w r rows) (hl : NumSl .i64 w l ls) (hf : CsFit css) (hd : (boundF css rows ls).2 = 0) : Calls Try.prog 19 #[v, r, l] w (TightPost (tgAll css rows ls css.length) 0 w) := by
  have hb := Bound_any v r l css rows ls w hv hr hl hf
  obtain ⟨hck, hsz⟩ := bound_ok hd
  have hok := (csOk_of hck).1
  obtain ⟨i0, hi, hz0, hz1, hz2⟩ := info_parts info44
  obtain ⟨n, hn⟩ : ∃ n, css.length = n := ⟨_, rfl⟩
  obtain ⟨m, hm⟩ : ∃ m, colN css = m := ⟨_, rfl⟩
  have hrl := hsz.r.trans hn
  have hll := hsz.c.trans hm
  have hv0 := Lib.hid hv
  have hr0 := Lib.hid hr
  have hl0 := Lib.hid hl
  have hn60 := hok.n
  have hm120 := hok.m
  rw [hn] at hn60
  rw [hm] at hm120
  have hrow := Lib.hid (fun k (h : k < n) => (hok.row k (by omega)).trans hm)
  have hval : Hid (∀ r k, -1000000000 ≤ cF css r k ∧ cF css r k ≤ 1000000000) := Lib.hid (fun r k => hok.val r k)
  have hrb := Lib.hid hsz.rb
  have hlb := Lib.hid hsz.cb
  obtain ⟨bd, d, hbd⟩ : ∃ bd d, boundF css rows ls = (bd, d) := ⟨_, _, rfl⟩
  rw [hbd] at hb hd
  simp only at hd
  subst hd
  obtain ⟨av, cv, rfl⟩ := hv.lenN hn
  obtain ⟨ar, cr, rfl⟩ := hr.lenV hrl
  obtain ⟨al, cl, rfl⟩ := hl.lenV hll
  rw [hn]
  have hall : Hid (∀ q, q ≤ n → (tgAll css rows ls q).length ≤ 7200) := Lib.hid (fun q hq => tgAll_bd (by omega) (by omega))
  replace hb := Lib.hid hb
  replace hbd := Lib.hid hbd
  replace hn := Lib.hid hn
  replace hm := Lib.hid hm
  replace hrl := Lib.hid hrl
  replace hll := Lib.hid hll
  clear hv hr hl hf hsz hok hck
  go_enter Try.func19, Try.ntmps19
  go_wp2_with fail
  refine hb.out.mono ?_
  rintro e w1 ⟨rfl, hb1⟩
  go_wp2
  go_loopw [10, 27] (fun o i wr => ∃ (q : Nat) (ps : List (Nat × Nat)), q ≤ n ∧ i = .int .i64 (q : Int) ∧ Hid (ps = tgAll css rows ls q) ∧ wr.ownsRow w.heap.size 44 2 o ps.length (prCells ps) ∧ Below w.heap.size w wr) (fun _ i _ => n - (intOf i).toNat)
  case atStart => exact ⟨0, [], Nat.zero_le _, rfl, Lib.hid rfl, World.ownsRow_nil _ _ _ _, hb1⟩
  case round =>
    clear hb1
    obtain ⟨q, ps, hq, rfl, hps, hown, hB⟩ := hrel
    by_cases hlq : q < n
    · have hqb : decide ((q : Int) < (n : Int)) = true := decide_eq_true (by omega)
      obtain ⟨b3, o3, c3', he3, hb3, hc3⟩ := hv0.out.atN hn.out hlq
      cases he3
      obtain ⟨x, x3w, hx⟩ := hc3 q hlq
      have hx0 := Lib.hid hx
      obtain ⟨a4, c4', rfl⟩ := hx.lenV (hrow.out q hlq)
      have x3 := (hB.cell (p := ⟨b3, o3 + q, none⟩) hb3).trans x3w
      have hlen := hall.out q hq
      clear hc3 hx x3w
      go_wp2
      go_loopw [10, 34] (fun o i wr => ∃ (p : Nat) (ps : List (Nat × Nat)), p ≤ m ∧ i = .int .i64 (p : Int) ∧ Hid (ps = tgAll css rows ls q ++ tgRow css rows ls q p) ∧ wr.ownsRow w.heap.size 44 2 o ps.length (prCells ps) ∧ Below w.heap.size w wr) (fun _ i _ => m - (intOf i).toNat)
      case atStart => exact ⟨0, ps, Nat.zero_le _, rfl, Lib.hid (by rw [hps.out]; simp [tgRow]), hown, hB⟩
      case round =>
        clear hown hB x3 hps ps
        obtain ⟨p, ps, hp, rfl, hps, hown, hB⟩ := hrel
        by_cases hlp : p < m
        · have hpb : decide ((p : Int) < (m : Int)) = true := decide_eq_true (by omega)
          obtain ⟨b1, o1, c1', he1, hc1⟩ := (hr0.out.mono hB).atN hrl.out hlq
          cases he1
          have x1 := hc1 q hlq
          obtain ⟨b2, o2, c2', he2, hc2⟩ := (hl0.out.mono hB).atN hll.out hlp
          cases he2
          have x2 := hc2 p hlp
          obtain ⟨b4, o4, c4'', he4, hc4⟩ := (hx0.out.mono hB).atN (hrow.out q hlq) (k := p) hlp
          cases he4
          have x4 : wr.cell? ⟨b4, o4 + p, none⟩ = some (.int .i64 (cF css q p)) := hc4 p hlp
          have v1 := hrb.out q
          have v2 := hlb.out p
          have v4 := hval.out q p
          have L1 := @tgRow_hit css rows ls q p
          have L2 := @tgRow_miss css rows ls q p
          unfold tgB at L1 L2
          have hpl : ps.length ≤ 7400 := by
            rw [hps.out, List.length_append]
            have := tgRow_len (css := css) (rows := rows) (ls := ls) (i := q) p
            omega
          generalize nth rows q = y1 at x1 v1 L1 L2
          generalize nth ls p = y2 at x2 v2 L1 L2
          generalize cF css q p = y4 at x4 v4 L1 L2
          have es : IntKind.i64.wrap (y1 + y2) = y1 + y2 := IntWalk.i64_in _ (by omega)
          have hown2 := fun nq => ownsRow_grown hown (below_drewN (Below.refl wr.heap.size wr) nq)
          clear hc1 hc2 hc4
          by_cases hbad : (y1 + y2 == y4) = true
          · have hps2 : Hid (ps ++ [(q, p)] = tgAll css rows ls q ++ tgRow css rows ls q (p + 1)) := Lib.hid (by rw [L1 hbad, hps.out, List.append_assoc])
            replace hown2 := Lib.hid hown2
            clear L1 L2 hps hown
            go_wp2_with fail
            go_quiet (fail)
            have hown3 := hown2.out nq
            have hB3 := below_drewN hB nq
            generalize wr.drewN nq = W at hown3 hB3 ⊢
            have hrow2 := hown3.alloc (.cells #[.int .i64 (q : Int), .int .i64 (p : Int)] 44)
            have hBs := hB3.size
            clear hown2 hB x1 x2 x4
            go_wp2_with (at_builtin; refine wpList_append_own _ rfl _ _ 39 rfl w.heap.size 44 i0 _ 2 16 Try.underlying39 hi hz0 hz1 hz2 rfl (by decide) _ _ _ rfl hrow2 ⟨W.heap.size, 0, none⟩ 1 1 (prC (q, p)) rfl rfl (cells_new _ _ _) (by simp [Value.oneCell', prC]) (by unfold maxLen; omega) (by omega) (by simp; omega) ?_; intro v' w1' hown' hgrow hnil)
            have hB4 := (hB3.alloc hBs (.cells #[.int .i64 (q : Int), .int .i64 (p : Int)] 44)).grown hgrow (by simp; omega) (fun q e => ownsRow_low hrow2 q e)
            go_roundw
            case rel => exact ⟨p + 1, ps ++ [(q, p)], by omega, by go_num, hps2, by rw [prCells_snoc, List.length_append]; exact hown', hB4⟩
            case measure => simp [intOf]; omega
          · rw [Bool.not_eq_true] at hbad
            have hps2 : Hid (ps = tgAll css rows ls q ++ tgRow css rows ls q (p + 1)) := Lib.hid (by rw [L2 hbad]; exact hps.out)
            replace hown2 := Lib.hid hown2
            clear L1 L2 hps hown
            go_wp2_with fail
            go_quiet (fail)
            have hown3 := hown2.out nq
            have hB3 := below_drewN hB nq
            go_wp2
            go_roundw
            case rel => exact ⟨p + 1, ps, by omega, by go_num, hps2, hown3, hB3⟩
            case measure => simp [intOf]; omega
        · obtain rfl : p = m := by omega
          have hps2 : Hid (ps = tgAll css rows ls (q + 1)) := Lib.hid (by rw [hps.out, tgAll, hll.out])
          clear hps
          go_wp2
          go_roundw
          case rel => exact ⟨q + 1, ps, by omega, by go_num, hps2, hown, hB⟩
          case measure => simp [intOf]; omega
    · obtain rfl : q = n := by omega
      have hpr := prSl_of rfl hown
      rw [hps.out] at hpr
      clear hown hps
      go_wp2
      go_ret2
      exact ⟨_, rfl, hpr, hB⟩
end Go.Proofs.Ytoendfpfnfeccaa
