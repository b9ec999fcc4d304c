/- The walk of BlowerLeast. Conditions: lists that fit. -/
import Derived.Test.YtfefocgekmeahaaW29
import Derived.Test.YtfefocgekmeahaaL4
namespace Go.Proofs.Ytfefocgekmeahaa
open Go.RowKit Go.Shelf

/-- what the model's run and lack tell with a supply -/
theorem runM_fit {sup : Int} {v u : Value} {ns : List Nd} {dss : List (List Int)} (hp : PlOk ns) (hd : DssOk ns dss) (hdl : dss.length ≤ 1000) (h0 : -1 ≤ sup) (h1 : sup ≤ 1000000000) (W : World) (hv : NdSl W v ns) (hu : SlSl W u dss) :
    Calls Try.prog 17 #[plV sup v, u] W (fun e w' => ∃ y, e = .returned y ∧ StsSl w' y dss.length (fun i => runT ns sup dss (i + 1)) ∧ Below W.heap.size W w') := runM_any sup v ns u dss W hv hu hp h0 h1 hd hdl
theorem lackM_fit {sup : Int} {ns : List Nd} {dss : List (List Int)} (hp : PlOk ns) (hd : DssOk ns dss) (hdl : dss.length ≤ 1000) (h0 : -1 ≤ sup) (h1 : sup ≤ 1000000000) (W : World) (y : Value) (hy : StsSl W y dss.length (fun i => runT ns sup dss (i + 1))) :
    ∃ a b : Int, Calls Try.prog 16 #[y] W fun e w' => e = .returned (.tuple #[.int .i64 a, .int .i64 b, .bool (lkS ns sup dss 0).2.2]) ∧ W = w' :=
  ⟨_, _, lackM_any y ns sup dss ns.length W hy hdl (by have := hp.len; omega) (fun i hi => (runT_len hp h0 h1 hd i hi).2.2)⟩
/-- what Least tells, beside the model -/
theorem least_law {ns : List Nd} {dss : List (List Int)} (hp : PlOk ns) (hd : DssOk ns dss) {sup : Int} {w w' : World} {e : Ending} (hca : caF sup ns dss = 0) (h : LeastPost sup ns dss w e w') :
    Below w.heap.size w w' ∧ ((e = .returned (.tuple #[.int .i64 0, .bool false, .int .i64 0]) ∧ (lkS ns 1000000000 dss 0).2.2 = true) ∨
      ∃ k : Int, 0 ≤ k ∧ k ≤ 1000000000 ∧ e = .returned (.tuple #[.int .i64 k, .bool true, .int .i64 0]) ∧ (lkS ns 1000000000 dss 0).2.2 = false ∧ (lkS ns k dss 0).2.2 = false ∧ (k ≠ 0 → (lkS ns (k - 1) dss 0).2.2 = true)) := by
  obtain ⟨hb, _, h2⟩ := h
  obtain ⟨k, hk, h3, h4, h5⟩ := h2 hca
  refine ⟨hb, ?_⟩
  rcases h5 with ⟨rfl, rfl⟩ | ⟨h6, rfl⟩
  · exact .inl ⟨rfl, h3 1000000000 rfl⟩
  · refine .inr ⟨k, by omega, by omega, rfl, ?_, h4 h6, fun hk0 => ?_⟩
    · cases hx : (lkS ns 1000000000 dss 0).2.2
      · rfl
      · have := lkN_anti hp hd (n := k) (n' := 1000000000) (by omega) hx
        rw [h4 h6] at this
        cases this
    · have := h3 (k - 1) (by omega)
      unfold lkN at this
      rwa [show ((k - 1 : Nat) : Int) = (k : Int) - 1 by omega] at this

set_option maxRecDepth 100000 in
set_option maxHeartbeats 8000000 in
theorem law3_any (sup : Int) (v : Value) (ns : List Nd) (u : Value) (dss : List (List Int)) (w : World) (hv : NdSl w v ns) (hu : SlSl w u dss) (hm : ns.length ≤ 9223372036854775807) (hm2 : dss.length ≤ 9223372036854775807) :
    Calls Try.prog 3 #[plV sup v, u] w fun e w' => e = .returned (.bool true) ∧ Below w.heap.size w w' := by
  have hB := (Below.refl w.heap.size w).alloc (Nat.le_refl _) (.cells #[.int .i64 sup, v] 24)
  have bP := BoxC.new w 24 #[.int .i64 sup, v]
  have hv1 := hv.mono hB
  have hu1 := hu.mono hB
  have hsm := fun W (h : NdSl W v ns) (h2 : SlSl W u dss) => small_any sup v ns u dss W h h2 hm2
  have hck := fun W (h : NdSl W v ns) => lcheck_any sup v ns W h (by omega)
  have hrf := fun hf W (h : NdSl W v ns) (h2 : SlSl W u dss) => refused_any sup v ns u dss W h h2 hf
  have hfit := fun h1 h2 h3 => dssFit_of (ns := ns) (dss := dss) h1 h2 h3
  have hlst := fun hf W (h : NdSl W v ns) (h2 : SlSl W u dss) => Least_any sup v ns u dss W h h2 hf
  have hok := smS_ok (ns := ns) (dss := dss)
  obtain ⟨d, hd⟩ : ∃ d, ckF sup ns = d := ⟨_, rfl⟩
  obtain ⟨r, hr⟩ : ∃ r, caS ns dss 0 = r := ⟨_, rfl⟩
  rw [hd] at hck
  rw [hr] at hrf
  obtain ⟨av, cv, rfl⟩ := hv.len
  obtain ⟨au, cu, rfl⟩ := hu.len
  have hv0 := hv
  have hu0 := hu
  clear hv hu
  generalize smS ns dss 0 = sm at hsm hok
  replace hd := Lib.hid hd
  replace hr := Lib.hid hr
  replace hsm := Lib.hid hsm
  replace hck := Lib.hid hck
  replace hrf := Lib.hid hrf
  replace hlst := Lib.hid hlst
  replace hok := Lib.hid hok
  go_enter Try.func3, Try.ntmps3
  go_wp2_with fail
  refine (known_any _).mono ?_
  rintro e w1 ⟨rfl, hb1⟩
  replace bP := bP.grown hb1
  have c0 := bP.cell 0 rfl
  have c1 := bP.cell 1 rfl
  replace hB := hB.trans (hb1.mono hB.size)
  replace hv1 := hv1.mono hb1
  replace hu1 := hu1.mono hb1
  have hsm1 := Lib.hid (hsm.out w1 hv1 hu1)
  clear hsm hb1
  go_wp2_with fail
  refine hsm1.out.mono ?_
  rintro e w2 ⟨rfl, hb2⟩
  replace bP := bP.grown hb2
  replace c0 := bP.cell 0 rfl
  replace c1 := bP.cell 1 rfl
  replace hB := hB.trans (hb2.mono hB.size)
  replace hv1 := hv1.mono hb2
  replace hu1 := hu1.mono hb2
  clear hsm1 hb2
  cases sm
  · clear hck hrf hfit hlst hok hd hr hv1 hu1
    go_wp2_with fail
    refine (known_any _).mono ?_
    rintro e w3 ⟨rfl, hb3⟩
    go_wp2
    go_ret
    exact ⟨rfl, hB.trans (hb3.mono hB.size)⟩
  obtain ⟨hn32, hd8, hlen⟩ := hok.out rfl
  replace hfit := hfit hn32 hd8 hlen
  have hck1 := Lib.hid (hck.out w2 hv1)
  clear hok hck hlen
  go_wp2_with fail
  refine hck1.out.mono ?_
  rintro e w3 ⟨rfl, hb3⟩
  replace bP := bP.grown hb3
  replace c0 := bP.cell 0 rfl
  replace c1 := bP.cell 1 rfl
  replace hB := hB.trans (hb3.mono hB.size)
  replace hv1 := hv1.mono hb3
  replace hu1 := hu1.mono hb3
  clear hck1 hb3
  by_cases h0 : d = 0
  case neg =>
    obtain ⟨g1, g2⟩ := neq_of h0
    clear hrf hlst hd hr hv1 hu1 h0
    go_wp2_with fail
    refine (known_any _).mono ?_
    rintro e w4 ⟨rfl, hb4⟩
    go_wp2
    go_ret
    exact ⟨rfl, hB.trans (hb4.mono hB.size)⟩
  subst h0
  obtain ⟨-, hp⟩ := plOk_of hd.out
  have hls1 := Lib.hid (hlst.out hfit w3 hv1 hu1)
  clear hlst
  go_wp2_with fail
  refine hls1.out.mono ?_
  rintro e w4 hLP
  have hbl := hLP.1
  replace bP := bP.grown hbl
  replace c0 := bP.cell 0 rfl
  replace c1 := bP.cell 1 rfl
  replace hB := hB.trans (hbl.mono hB.size)
  replace hv1 := hv1.mono hbl
  replace hu1 := hu1.mono hbl
  clear hls1 hbl
  have hrf1 := Lib.hid (hrf.out hfit w4 hv1 hu1)
  clear hrf
  by_cases h0 : r = 0
  case neg =>
    obtain ⟨g1, g2⟩ := neq_of h0
    have he := hLP.2.1 (by rw [caF_of hd.out hd8, hr.out]; exact h0)
    rw [caF_of hd.out hd8, hr.out] at he
    subst he
    clear hLP hd hr hv1 hu1 h0
    go_wp2_with fail
    refine hrf1.out.mono ?_
    rintro e w5 ⟨rfl, hb5⟩
    clear c0 c1 hrf1
    go_wp2
    go_ret
    exact ⟨rfl, hB.trans (hb5.mono hB.size)⟩
  subst h0
  have hds := dssOk_of hr.out
  have hdl : dss.length ≤ 1000 := by omega
  obtain ⟨-, hcase⟩ := least_law hp hds (by rw [caF_of hd.out hd8]; exact hr.out) hLP
  have hrun := fun s h0 h1 W => runM_fit (sup := s) (v := .slice av ns.length cv) (u := .slice au dss.length cu) hp hds hdl h0 h1 W
  have hlk := fun s h0 h1 W y hy => lackM_fit (sup := s) hp hds hdl h0 h1 W y hy
  replace hrun := Lib.hid hrun
  replace hlk := Lib.hid hlk
  clear hLP hd hr hds
  rcases hcase with ⟨rfl, h9⟩ | ⟨k, hk0, hk1, rfl, h9, h8, h7⟩
  · go_wp2_with fail
    refine hrf1.out.mono ?_
    rintro e w5 ⟨rfl, hb5⟩
    replace bP := bP.grown hb5
    replace c0 := bP.cell 0 rfl
    replace c1 := bP.cell 1 rfl
    have f0 := bP.frozen 0
    have b6 := bP.set 0 (.int .i64 1000000000)
    have d0 := b6.cell 0 rfl
    have d1 := b6.cell 1 rfl
    have hB5 := hB.trans (hb5.mono hB.size)
    have hB6 := hB5.setCell (p := ⟨w.heap.size, 0, none⟩) (Nat.le_refl _) (.int .i64 1000000000)
    have hv6 := hv0.mono hB6
    have hu6 := hu0.mono hB6
    have hr6 := Lib.hid (hrun.out 1000000000 (by omega) (by omega) _ hv6 hu6)
    clear hrf1 hb5 hB hB5 hv1 hu1
    go_wp2_with fail
    refine hr6.out.mono ?_
    rintro e w7 ⟨y7, rfl, hy7, hb7⟩
    obtain ⟨x7, z7, hl7⟩ := hlk.out 1000000000 (by omega) (by omega) w7 y7 hy7
    rw [h9] at hl7
    replace hl7 := Lib.hid hl7
    replace b6 := b6.grown hb7
    have e0 := b6.cell 0 rfl
    have e1 := b6.cell 1 rfl
    have hB7 := hB6.trans (hb7.mono hB6.size)
    replace hv6 := hv6.mono hb7
    replace hu6 := hu6.mono hb7
    replace h9 := Lib.hid h9
    clear hr6 hb7 hy7 hB6 c0 c1 d0 d1 f0 bP
    go_wp2_with fail
    refine hl7.out.mono ?_
    rintro e w8 ⟨rfl, rfl⟩
    clear hl7
    go_wp2
    go_ret
    exact ⟨rfl, hB7⟩
  · go_wp2_with fail
    refine hrf1.out.mono ?_
    rintro e w5 ⟨rfl, hb5⟩
    replace bP := bP.grown hb5
    replace c0 := bP.cell 0 rfl
    replace c1 := bP.cell 1 rfl
    have f0 := bP.frozen 0
    have b6 := bP.set 0 (.int .i64 1000000000)
    have d0 := b6.cell 0 rfl
    have d1 := b6.cell 1 rfl
    have hB5 := hB.trans (hb5.mono hB.size)
    have hB6 := hB5.setCell (p := ⟨w.heap.size, 0, none⟩) (Nat.le_refl _) (.int .i64 1000000000)
    have hv6 := hv0.mono hB6
    have hu6 := hu0.mono hB6
    have hr6 := Lib.hid (hrun.out 1000000000 (by omega) (by omega) _ hv6 hu6)
    clear hrf1 hb5 hB hB5 hv1 hu1
    go_wp2_with fail
    refine hr6.out.mono ?_
    rintro e w7 ⟨y7, rfl, hy7, hb7⟩
    obtain ⟨x7, z7, hl7⟩ := hlk.out 1000000000 (by omega) (by omega) w7 y7 hy7
    rw [h9] at hl7
    replace hl7 := Lib.hid hl7
    replace b6 := b6.grown hb7
    have e0 := b6.cell 0 rfl
    have e1 := b6.cell 1 rfl
    have hB7 := hB6.trans (hb7.mono hB6.size)
    replace hv6 := hv6.mono hb7
    replace hu6 := hu6.mono hb7
    replace h9 := Lib.hid h9
    clear hr6 hb7 hy7 hB6 c0 c1 d0 d1 f0 bP
    go_wp2_with fail
    refine hl7.out.mono ?_
    rintro e w8 ⟨rfl, rfl⟩
    clear hl7
    have f0 := b6.frozen 0
    have b9 := b6.set 0 (.int .i64 (k))
    have d0 := b9.cell 0 rfl
    have d1 := b9.cell 1 rfl
    have hB9 := hB7.setCell (p := ⟨w.heap.size, 0, none⟩) (Nat.le_refl _) (.int .i64 (k))
    have hv9 := hv0.mono hB9
    have hu9 := hu0.mono hB9
    have hr9 := Lib.hid (hrun.out (k) (by omega) (by omega) _ hv9 hu9)
    clear hv6 hu6 hB7
    go_wp2_with fail
    refine hr9.out.mono ?_
    rintro e w9 ⟨y9, rfl, hy9, hb9⟩
    obtain ⟨x9, z9, hl9⟩ := hlk.out (k) (by omega) (by omega) w9 y9 hy9
    rw [h8] at hl9
    replace hl9 := Lib.hid hl9
    replace b6 := b9.grown hb9
    clear e0 e1
    have e0 := b6.cell 0 rfl
    have e1 := b6.cell 1 rfl
    have hB7 := hB9.trans (hb9.mono hB9.size)
    have hv6 := hv9.mono hb9
    have hu6 := hu9.mono hb9
    replace h8 := Lib.hid h8
    clear hr9 hb9 hy9 hB9 d0 d1 f0 b9 hv9 hu9
    go_wp2_with fail
    refine hl9.out.mono ?_
    rintro e w10 ⟨rfl, rfl⟩
    clear hl9
    have g1 : ¬ k < 0 := by omega
    have g2 : ¬ 1000000000 < k := by omega
    have g3 : decide (k < 0) = false := decide_eq_false g1
    have g4 : decide (1000000000 < k) = false := decide_eq_false g2
    have f0 := b6.frozen 0
    have b9 := b6.set 0 (.int .i64 (k - 1))
    have d0 := b9.cell 0 rfl
    have d1 := b9.cell 1 rfl
    have hB9 := hB7.setCell (p := ⟨w.heap.size, 0, none⟩) (Nat.le_refl _) (.int .i64 (k - 1))
    have hv9 := hv0.mono hB9
    have hu9 := hu0.mono hB9
    have hr9 := Lib.hid (hrun.out (k - 1) (by omega) (by omega) _ hv9 hu9)
    clear hv6 hu6 hB7
    go_wp2_with fail
    refine hr9.out.mono ?_
    rintro e w11 ⟨y11, rfl, hy11, hb11⟩
    obtain ⟨x11, z11, hl11⟩ := hlk.out (k - 1) (by omega) (by omega) w11 y11 hy11
    obtain ⟨is, his⟩ : ∃ b, (lkS ns (k - 1) dss 0).2.2 = b := ⟨_, rfl⟩
    rw [his] at hl11 h7
    replace hl11 := Lib.hid hl11
    have hB7 := hB9.trans (hb11.mono hB9.size)
    clear hr9 hb11 hy11 hB9 d0 d1 f0 b9 hv9 hu9 his hlk hrun
    by_cases hz : k = 0
    · subst hz
      go_wp2_with fail
      refine hl11.out.mono ?_
      rintro e w12 ⟨rfl, rfl⟩
      clear hl11 e0 e1
      go_wp2
      go_ret
      exact ⟨rfl, hB7⟩
    · obtain rfl := h7 hz
      have hz1 : (k == 0) = false := by simp [hz]
      clear h7
      go_wp2_with fail
      refine hl11.out.mono ?_
      rintro e w12 ⟨rfl, rfl⟩
      clear hl11 e0 e1
      go_wp2
      go_ret
      exact ⟨rfl, hB7⟩
end Go.Proofs.Ytfefocgekmeahaa
