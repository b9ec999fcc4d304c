/- The contract of known: the example of the chapter. Conditions: none. -/
import Derived.Test.YtfefocgekmeahaaW19
import Derived.Deep.RegionHeld3
namespace Go.Proofs.Ytfefocgekmeahaa
open Go.RowKit Go.Shelf

theorem info39 : (Try.prog.info? 39).map (fun i => (i.zero, i.size, i.bytes)) = some (some (.slice none 0 0), 1, 24) := by kernel_rfl

def rowV (g : Nat) : Value := .slice (some ⟨g, 0, none⟩) 3 3
/-- k rows of the example lie, and a slice of them -/
def SevI (w : World) (v : Value) (k : Nat) (W : World) : Prop :=
  ∃ rs : List Nat, rs.length = k ∧ W.ownsRow w.heap.size 39 1 v k (rs.map rowV) ∧ (∀ g ∈ rs, BoxC W g 3 #[.int .i64 0, .int .i64 4, .int .i64 5]) ∧ Below w.heap.size w W
theorem boxC_num3 {W : World} {g : Nat} {a b c : Int} (h : BoxC W g 3 #[.int .i64 a, .int .i64 b, .int .i64 c]) : NumSl .i64 W (rowV g) [a, b, c] := by
  refine .inr ⟨g, 0, 3, rfl, fun i hi => ?_⟩
  have h3 : i = 0 ∨ i = 1 ∨ i = 2 := by simp at hi; omega
  rcases h3 with rfl | rfl | rfl
  · exact h.cell 0 rfl
  · exact h.cell 1 rfl
  · exact h.cell 2 rfl
theorem boxC_num {W : World} {g : Nat} (h : BoxC W g 3 #[.int .i64 0, .int .i64 4, .int .i64 5]) : NumSl .i64 W (rowV g) dm0 := boxC_num3 h
theorem SevI.sl {w W : World} {v : Value} (h : SevI w v 7 W) : ∃ g cap u, v = .slice (some ⟨g, 0, none⟩) 7 cap ∧ 7 ≤ cap ∧ SlSl W (.slice (some ⟨g, 0, none⟩) 7 cap) (List.replicate 7 dm0) ∧ SlSl W (.slice (some ⟨g, 0, none⟩) 6 cap) (List.replicate 6 dm0) ∧ W.cell? ⟨g, 0, none⟩ = some u ∧ NumSl .i64 W u dm0 ∧ Below w.heap.size w W := by
  obtain ⟨rs, hl, ho, hb, hB⟩ := h
  have hf := FlatSl.of_owns ho
  obtain ⟨_, h1 | ⟨g, cap, cur, rfl, h3, h4, h5, _⟩⟩ := ho
  · exact absurd h1.2 (by decide)
  rcases hf with ⟨h1, _⟩ | ⟨b, cap', he, hlt, hc⟩
  · cases h1
  cases he
  have hx : ∀ i, i < 7 → ∃ u, W.cell? ⟨g, 0 + i, none⟩ = some u ∧ NumSl .i64 W u dm0 := fun i hi => by
    have hr := List.getElem?_eq_getElem (l := rs) (i := i) (by omega)
    refine ⟨rowV rs[i], ?_, boxC_num (hb _ (List.getElem_mem _))⟩
    rw [Nat.zero_add]
    exact hc i _ (by rw [List.getElem?_map, hr]; rfl)
  obtain ⟨u, hu1, hu2⟩ := hx 0 (by omega)
  refine ⟨g, cap, u, rfl, h5, .inr ⟨g, 0, cap, rfl, hlt, fun i hi => ?_⟩, .inr ⟨g, 0, cap, rfl, hlt, fun i hi => ?_⟩, hu1, hu2, hB⟩
  · obtain ⟨u, h6, h7⟩ := hx i (by simpa using hi)
    refine ⟨u, h6, ?_⟩
    have : nths (List.replicate 7 dm0) i = dm0 := by simp only [nths]; rw [List.getElem?_replicate, if_pos (by simpa using hi)]; rfl
    rw [this]
    exact h7
  · obtain ⟨u, h6, h7⟩ := hx i (by have : i < 6 := by simpa using hi
                                   omega)
    refine ⟨u, h6, ?_⟩
    have : nths (List.replicate 6 dm0) i = dm0 := by simp only [nths]; rw [List.getElem?_replicate, if_pos (by simpa using hi)]; rfl
    rw [this]
    exact h7

theorem one_news {W : World} {g : Nat} {t : TypeId} {u : Value} (h : BoxC W g t #[u]) : ∀ j x, [u][j]? = some x → W.cell? ((⟨g, 0, none⟩ : Addr).add j) = some x := fun j x hj => by
  cases j with
  | zero => simp at hj; subst hj; exact h.cell 0 rfl
  | succ j => simp at hj

theorem boxC_not_row {W : World} {B : Nat} {t e : TypeId} {cs : Array Value} {base size k : Nat} {v : Value} {xs : List Value} (h : BoxC W B t cs) (hte : t ≠ e) (hr : W.ownsRow base e size v k xs) : some B ≠ v.ownBlock := by
  intro e1
  obtain ⟨_, ⟨rfl, _⟩ | ⟨g, cap, cur, rfl, _, h4, _⟩⟩ := hr
  · cases e1
  · obtain rfl : B = g := by simpa [Value.ownBlock] using e1
    rw [show W.heap[B]? = _ from h] at h4
    cases h4
    exact hte rfl

theorem fitN {n : Nat} (hn : n ≤ 7) : DssFit plN (List.replicate n dm0) :=
  ⟨by decide, by simp; omega, fun k => by
    rcases Nat.lt_or_ge k n with h | h
    · simp only [nths]; rw [List.getElem?_replicate, if_pos h]; decide
    · simp only [nths]; rw [List.getElem?_replicate, if_neg (by omega)]; decide⟩
theorem nths_rep {n i : Nat} (h : i < n) : nths (List.replicate n dm0) i = dm0 := by simp only [nths]; rw [List.getElem?_replicate, if_pos h]; rfl
theorem plN_P : PlOk plN := (plOk_of plN_ok).2
theorem dssN {n : Nat} (hn : n = 6 ∨ n = 7) : DssOk plN (List.replicate n dm0) := (caF_ok (caN n hn)).2.2.2
theorem run_known {w w' : World} {e : Ending} (h : RunPost 10 plN (List.replicate 7 dm0) w e w') : ∃ br off cp ul uk, e = .returned (.tuple #[.slice (some ⟨br, off, none⟩) 7 cp, .int .i64 0]) ∧ Below w.heap.size w w' ∧ br < w'.heap.size ∧ w'.cell? ⟨br, off, none⟩ = some ul ∧ w'.cell? ⟨br, off + 20, none⟩ = some uk ∧ NumSl .i64 w' ul [5, 0, 0] ∧ NumSl .i64 w' uk [0, 0, 1] := by
  obtain ⟨v, rfl, hB, h1, _⟩ := h
  have h2 := h1 (caN 7 (.inr rfl))
  obtain ⟨br, off, cp, rfl, hl, hc⟩ := h2.at (k := 0) (by decide)
  obtain ⟨u1, u2, u3, c1, _, _, s1⟩ := hc 0 (by decide)
  obtain ⟨t1, t2, t3, _, _, d3, s2⟩ := hc 6 (by decide)
  have e1 := s1.lv
  have e2 := s2.lk
  rw [show (0 : Nat) + 1 = 1 from rfl, run1] at e1
  rw [show (6 : Nat) + 1 = 7 from rfl, run7] at e2
  exact ⟨br, off, cp, u1, t3, by rw [caN 7 (.inr rfl)]; rfl, hB, hl, c1, d3, e1, e2⟩
theorem least_known {w w' : World} {e : Ending} (h : LeastPost 10 plN (List.replicate 6 dm0) w e w') : e = .returned (.tuple #[.int .i64 8, .bool true, .int .i64 0]) ∧ Below w.heap.size w w' := by
  obtain ⟨hB, _, h1⟩ := h
  obtain ⟨k, hk, k1, k2, h3⟩ := h1 (caN 6 (.inl rfl))
  have hk8 : k = 8 := lkN_turn plN_P (dssN (.inl rfl)) k1 k2 (q := 8) (fun j hj => by have : j = 7 := by omega
                                                                                      subst this; exact lk7) lk8 (by omega)
  subst hk8
  rcases h3 with ⟨h3, _⟩ | ⟨_, rfl⟩
  · omega
  · exact ⟨rfl, hB⟩
theorem steady_known {w w' : World} {e : Ending} (h : SteadyPost 10 plN dm0 w e w') : e = .returned (.tuple #[.int .i64 999, .int .i64 0]) ∧ Below w.heap.size w w' := by
  obtain ⟨hB, _, h1⟩ := h
  have hd : DmOk plN dm0 := dmOk_of (by decide)
  obtain ⟨k, hk, k1, k2, rfl⟩ := h1 (by decide)
  have hk9 : k = 999 := btF_turn plN_P hd k1 k2 (q := 999) (fun j hj => by have : j = 998 := by omega
                                                                           subst this; exact bt999) (fun _ => bt1000) hk (by omega)
  subst hk9
  exact ⟨rfl, hB⟩

set_option maxHeartbeats 4000000 in
theorem known_any (w : World) : Calls Try.prog 11 #[] w (fun e w' => e = .returned (.bool true) ∧ Below w.heap.size w w') := by
  obtain ⟨i0, hi, hz0, hz1, hz2⟩ := info_parts info39
  go_enter Try.func11, Try.ntmps11
  go_wp2
  go_loopw [1, 2] (fun v q W => ∃ k : Nat, k ≤ 7 ∧ q = .int .i64 k ∧ SevI w v k W) (fun _ q _ => 7 - (intOf q).toNat)
  case atStart => exact ⟨0, by omega, rfl, [], rfl, World.ownsRow_nil _ _ _ _, by simp, Below.refl _ _⟩
  case round =>
    obtain ⟨k, hk, rfl, hS⟩ := hrel
    by_cases hlt : k < 7
    · obtain ⟨rs, hl, hrow, hbx, hB⟩ := hS
      have hki : (k : Int) < 7 := by omega
      have hBs := hB.size
      replace hl := Lib.hid hl
      replace hbx := Lib.hid hbx
      have hrow2 := (hrow.alloc (.cells #[.int .i64 0, .int .i64 4, .int .i64 5] 3)).alloc (.cells #[rowV wr.heap.size] 39)
      have hb2 := BoxC.new (wr.alloc (.cells #[.int .i64 0, .int .i64 4, .int .i64 5] 3)) 39 #[rowV wr.heap.size]
      rw [World.size_alloc] at hb2
      have hb3 := Lib.hid ((BoxC.new wr 3 #[.int .i64 0, .int .i64 4, .int .i64 5]).alloc (.cells #[rowV wr.heap.size] 39))
      replace hb2 := Lib.hid hb2
      have h1c : ∀ u ∈ [rowV wr.heap.size], u.oneCell' = true := by simp [Value.oneCell', rowV]
      replace h1c := Lib.hid h1c
      have hbs2 : w.heap.size ≤ ((wr.alloc (.cells #[.int .i64 0, .int .i64 4, .int .i64 5] 3)).alloc (.cells #[rowV wr.heap.size] 39)).heap.size := by simp; omega
      go_wp2_with (at_builtin; refine wpList_append_own _ rfl _ _ 25 rfl w.heap.size 39 i0 _ 1 24 Try.underlying25 hi hz0 hz1 hz2 rfl (by decide) _ _ _ rfl hrow2 ⟨wr.heap.size + 1, 0, none⟩ 1 1 [rowV wr.heap.size] rfl rfl (one_news hb2.out) h1c.out (by unfold maxLen; omega) (by omega) hbs2 ?_; intro v' w1' hown' hgrow hnil)
      have hg2 := Lib.hid hgrow
      clear hnil hgrow
      have hB2 := (hB.alloc hB.size (.cells #[.int .i64 0, .int .i64 4, .int .i64 5] 3)).alloc (by simp; omega) (.cells #[rowV wr.heap.size] 39)
      refine ⟨⟨k + 1, by omega, by go_num, rs ++ [wr.heap.size], by simp [hl.out], by simpa using hown', fun g hg => ?_, hB2.grown hg2.out hbs2 (fun q e => ownsRow_low hrow2 q e)⟩, by simp [intOf]; omega⟩
      rcases List.mem_append.1 hg with h1 | h1
      · have h2 := ((hbx.out g h1).alloc (.cells #[.int .i64 0, .int .i64 4, .int .i64 5] 3)).alloc (.cells #[rowV wr.heap.size] 39)
        exact h2.kept hg2.out (boxC_not_row h2 (by decide) hrow2)
      · obtain rfl : g = wr.heap.size := by simpa using h1
        exact hb3.out.kept hg2.out (boxC_not_row hb3.out (by decide) hrow2)
    · obtain rfl : k = 7 := by omega
      obtain ⟨g, cap, u, rfl, hcap, hs7, hs6, hcu, hnu, hB⟩ := hS.sl
      clear hS
      go_wp2_with fail
      refine (plant_any _).mono ?_
      rintro e w1 ⟨b, rfl, hn1, hbl, hb1⟩
      clear hbl
      have hr := Run_any 10 _ plN _ (List.replicate 7 dm0) w1 hn1 (hs7.mono hb1) (fitN (by omega))
      replace hr := Lib.hid hr
      go_wp2_with fail
      refine hr.out.mono ?_
      rintro e w2 hrp
      obtain ⟨br, off, cp, ul, uk, rfl, hb2, hbr, hcl, hck, hul, huk⟩ := run_known hrp
      clear hrp hr hn1 hs7
      replace hB := (hB.trans (hb1.mono hB.size)).trans (hb2.mono (hB.trans (hb1.mono hB.size)).size)
      replace hs6 := (hs6.mono hb1).mono hb2
      replace hnu := (hnu.mono hb1).mono hb2
      have hgl := lt_of_cell hcu
      replace hcu := (hb2.cell (p := ⟨g, 0, none⟩) (Nat.lt_of_lt_of_le hgl hb1.size)).trans ((hb1.cell (p := ⟨g, 0, none⟩) hgl).trans hcu)
      clear hgl hb1 hb2
      have hcap6 : 6 ≤ cap := by omega
      have hcap7 : (6 : Int) ≤ (cap : Int) := by omega
      have hdr : Below w2.heap.size w2 w2.drew := (Below.refl _ _).drew
      have hs6d := hs6.mono hdr
      have hcud : w2.drew.cell? ⟨g, 0, none⟩ = some u := hcu
      have hgd := lt_of_cell hcud
      replace hs6d := Lib.hid hs6d
      go_wp2_with fail
      go_region_held3 (fun Y => Y.cell? ⟨g, 0, none⟩ = some u) (first | exact hcud | exact hcup | exact hcul)
        (first | (go_at_call 35; refine (plant_any _).mono ?_; rintro e wp ⟨bp, rfl, hnp, hbpl, hbp⟩; have hcup := (hbp.cell (p := ⟨g, 0, none⟩) hgd).trans hcud)
               | (go_at_call 14; refine (Least_any 10 _ plN _ (List.replicate 6 dm0) _ hnp (hs6d.out.mono hbp) (fitN (by omega))).mono ?_; rintro e wl hlp; obtain ⟨rfl, hbl⟩ := least_known hlp; have hcul := (hbl.cell (p := ⟨g, 0, none⟩) (lt_of_cell hcup)).trans hcup))
      have hz : Below w2.heap.size w2 wl := hdr.trans ((hbp.trans (hbl.mono hbp.size)).mono hdr.size)
      clear hlp hbl hnp hbpl hs6d hs6 hcud hcap6 hcap7
      have hB3 := hB.trans (hz.mono hB.size)
      have hcl3 := (hz.cell (p := ⟨br, off, none⟩) hbr).trans hcl
      have hck3 := (hz.cell (p := ⟨br, off + 20, none⟩) hbr).trans hck
      have hul3 := hul.mono hz
      have huk3 := huk.mono hz
      have hnu3 := hnu.mono hz
      have hbr3 := Nat.lt_of_lt_of_le hbr hz.size
      clear hcup hbp hdr hgd hz hB hcl hck hul huk hnu hbr
      have hdr : Below wl.heap.size wl wl.drew := (Below.refl _ _).drew
      have hnud := hnu3.mono hdr
      have hcud : wl.drew.cell? ⟨g, 0, none⟩ = some u := hcul
      have hgd := lt_of_cell hcud
      replace hnud := Lib.hid hnud
      go_wp2_with fail
      go_region_held3 (fun Y => Y.cell? ⟨g, 0, none⟩ = some u) (first | exact hcud | exact hcup | exact hcuq)
        (first | (go_at_call 35; refine (plant_any _).mono ?_; rintro e wp ⟨bp, rfl, hnp, hbpl, hbp⟩; have hcup := (hbp.cell (p := ⟨g, 0, none⟩) hgd).trans hcud)
               | (go_at_call 24; refine (Steady_any 10 _ plN _ dm0 _ hnp (hnud.out.mono hbp) (by decide) (by decide)).mono ?_; rintro e wq hlp; obtain ⟨rfl, hbl⟩ := steady_known hlp; have hcuq := (hbl.cell (p := ⟨g, 0, none⟩) (lt_of_cell hcup)).trans hcup))
      have hz : Below wl.heap.size wl wq := hdr.trans ((hbp.trans (hbl.mono hbp.size)).mono hdr.size)
      clear hlp hbl hnp hbpl hnud hcud
      have hB4 := hB3.trans (hz.mono hB3.size)
      have hcl4 := (hz.cell (p := ⟨br, off, none⟩) hbr3).trans hcl3
      have hck4 := (hz.cell (p := ⟨br, off + 20, none⟩) hbr3).trans hck3
      have hul4 := hul3.mono hz
      have huk4 := huk3.mono hz
      have hbr4 := Nat.lt_of_lt_of_le hbr3 hz.size
      clear hcup hbp hdr hgd hz hB3 hcl3 hck3 hul3 huk3 hnu3 hbr3 hcul hcuq
      have hba := (Below.refl wq.heap.size wq).alloc (Nat.le_refl _) (.cells #[.int .i64 5, .int .i64 0, .int .i64 0] 3)
      have hs1 := Same_any ul (rowV wq.heap.size) [5, 0, 0] [5, 0, 0] _ (hul4.mono hba) (boxC_num3 (BoxC.new wq 3 #[.int .i64 5, .int .i64 0, .int .i64 0])) (by decide)
      rw [show sameL [5, 0, 0] [5, 0, 0] = true by decide] at hs1
      replace hs1 := Lib.hid hs1
      go_wp2_with fail
      refine hs1.out.mono ?_
      rintro e w5 ⟨rfl, hb5⟩
      have hz5 := hba.trans (hb5.mono hba.size)
      have hB5 := hB4.trans (hz5.mono hB4.size)
      have hck5 := (hz5.cell (p := ⟨br, off + 20, none⟩) hbr4).trans hck4
      have huk5 := huk4.mono hz5
      clear hz5 hb5 hba hs1 hB4 hcl4 hck4 hul4 huk4 hbr4
      have hba := (Below.refl w5.heap.size w5).alloc (Nat.le_refl _) (.cells #[.int .i64 0, .int .i64 0, .int .i64 1] 3)
      have hs2 := Same_any uk (rowV w5.heap.size) [0, 0, 1] [0, 0, 1] _ (huk5.mono hba) (boxC_num3 (BoxC.new w5 3 #[.int .i64 0, .int .i64 0, .int .i64 1])) (by decide)
      rw [show sameL [0, 0, 1] [0, 0, 1] = true by decide] at hs2
      replace hs2 := Lib.hid hs2
      go_wp2_with fail
      refine hs2.out.mono ?_
      rintro e w6 ⟨rfl, hb6⟩
      have hB6 := hB5.trans ((hba.trans (hb6.mono hba.size)).mono hB5.size)
      clear hs2 hba hb6 hck5 huk5
      go_wp2
      exact bodyPost_ret (v := .bool true) (by simp [results, Try.results11, go_sem]) rfl ⟨rfl, hB6⟩
end Go.Proofs.Ytfefocgekmeahaa
