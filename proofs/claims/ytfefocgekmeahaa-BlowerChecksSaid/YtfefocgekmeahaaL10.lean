/- The walk of BlowerChecks. Conditions: lists that fit. -/
import Derived.Test.YtfefocgekmeahaaL9
namespace Go.Proofs.Ytfefocgekmeahaa
open Go.RowKit Go.Shelf

theorem nil_nd (W : World) : NdSl W (.slice none 0 0) [] := .inl ⟨⟨none, 0, rfl⟩, rfl⟩
theorem nil_num (W : World) : NumSl .i64 W (.slice none 0 0) [] := .inl ⟨⟨none, 0, rfl⟩, rfl⟩
theorem nil_dss (W : World) : SlSl W (.slice none 0 0) [] := .inl ⟨⟨none, 0, rfl⟩, rfl⟩

set_option maxRecDepth 100000 in
set_option maxHeartbeats 8000000 in
theorem law10_any (sup : Int) (v : Value) (ns : List Nd) (w : World) (hv : NdSl w v ns) (hm : ns.length ≤ 9223372036854775807) :
    Calls Try.prog 10 #[plV sup v] w fun e w' => e = .returned (.bool true) ∧ Below w.heap.size w w' := by
  have hB := (Below.refl w.heap.size w).alloc (Nat.le_refl _) (.cells #[.int .i64 sup, v] 24)
  have bP := BoxC.new w 24 #[.int .i64 sup, v]
  have hck := fun W (hb : Below w.heap.size w W) => lcheck_any sup v ns W (hv.mono hb) hm
  have hsr := fun W (hb : Below w.heap.size w W) => Start_any sup v ns W (hv.mono hb) hm
  have hch := fun W (hb : Below w.heap.size w W) => Check_any sup v ns W (hv.mono hb) hm
  have hsp := fun W (hb : Below w.heap.size w W) => Step_any sup v ns (.slice none 0 0) (.slice none 0 0) (.slice none 0 0) [] (.slice none 0 0) [] W (hv.mono hb) (nil_num W) (nil_num W) hm (by simp) ⟨_, _, _, rfl⟩ ⟨_, _, _, rfl⟩
  have hfit : ns.length ≤ 32 → DssFit ns [] := fun h => ⟨by omega, by simp, fun k => by simp [nths]⟩
  have hrn := fun h W (hb : Below w.heap.size w W) => Run_any sup v ns (.slice none 0 0) [] W (hv.mono hb) (nil_dss W) (hfit h)
  have hfi := fun h W (hb : Below w.heap.size w W) => First_any sup v ns (.slice none 0 0) [] W (hv.mono hb) (nil_dss W) (hfit h)
  have hle := fun h W (hb : Below w.heap.size w W) => Least_any sup v ns (.slice none 0 0) [] W (hv.mono hb) (nil_dss W) (hfit h)
  have hst := fun W (hb : Below w.heap.size w W) => Steady_any sup v ns (.slice none 0 0) [] W (hv.mono hb) (nil_num W) hm (by simp)
  have hbn := fun W (hb : Below w.heap.size w W) => Bottleneck_any sup v ns (.slice none 0 0) [] W (hv.mono hb) (nil_num W) hm (by simp)
  have hsm := fun h W (hb : Below w.heap.size w W) => startM_any sup v ns W (hv.mono hb) h
  have hsf : ckF sup ns ≠ 0 → spF sup ns [] [] = ckF sup ns := fun h => by unfold spF; rw [if_pos h]
  have hcf : ckF sup ns ≠ 0 → caF sup ns [] = ckF sup ns := fun h => by unfold caF; rw [if_pos h]
  have hdf : ckF sup ns ≠ 0 → sdF sup ns [] = ckF sup ns := fun h => by unfold sdF; rw [if_pos h]
  unfold RunPost at hrn
  unfold FirstPost FirstF at hfi
  unfold LeastPost at hle
  unfold SteadyPost at hst
  unfold BnPost at hbn
  obtain ⟨d, hd⟩ : ∃ d, ckF sup ns = d := ⟨_, rfl⟩
  rw [hd] at hck hsr hch hsf hcf hdf
  obtain ⟨av, cv, rfl⟩ := hv.len
  clear hv hfit
  replace hd := Lib.hid hd
  replace hck := Lib.hid hck
  replace hsr := Lib.hid hsr
  replace hch := Lib.hid hch
  replace hsp := Lib.hid hsp
  replace hrn := Lib.hid hrn
  replace hfi := Lib.hid hfi
  replace hle := Lib.hid hle
  replace hst := Lib.hid hst
  replace hbn := Lib.hid hbn
  replace hsm := Lib.hid hsm
  replace hsf := Lib.hid hsf
  replace hcf := Lib.hid hcf
  replace hdf := Lib.hid hdf
  go_enter Try.func10, Try.ntmps10
  go_wp2_with fail
  refine (known_any _).mono ?_
  rintro e w1 ⟨rfl, hb1⟩
  replace bP := bP.grown hb1
  have c0 := bP.cell 0 rfl
  have c1 := bP.cell 1 rfl
  replace hB := hB.trans (hb1.mono hB.size)
  clear hb1
  by_cases hA : 32 < ns.length
  case pos =>
    have hA2 : (32 : Int) < (ns.length : Int) := by omega
    have hA3 : decide ((32 : Int) < (ns.length : Int)) = true := decide_eq_true hA2
    clear hd hck hsr hch hsp hrn hfi hle hst hbn hsm hsf hcf hdf
    go_wp2_with fail
    refine (known_any _).mono ?_
    rintro e w3 ⟨rfl, hb3⟩
    go_wp2
    go_ret
    exact ⟨rfl, hB.trans (hb3.mono hB.size)⟩
  have hA2 : ¬ (32 : Int) < (ns.length : Int) := by omega
  have hA3 : decide ((32 : Int) < (ns.length : Int)) = false := decide_eq_false hA2
  have hA4 : ns.length ≤ 32 := by omega
  have h1 := Lib.hid (hck.out w1 hB)
  clear hck
  go_wp2_with fail
  refine h1.out.mono ?_
  rintro e w2 ⟨rfl, hb2⟩
  replace bP := bP.grown hb2
  replace c0 := bP.cell 0 rfl
  replace c1 := bP.cell 1 rfl
  replace hB := hB.trans (hb2.mono hB.size)
  have h2 := Lib.hid (hsr.out w2 hB)
  clear h1 hb2 hsr
  go_wp2_with fail
  refine h2.out.mono ?_
  rintro e w3 ⟨v1, v2, v3, rfl, hS, hb3⟩
  replace bP := bP.grown hb3
  replace hB := hB.trans (hb3.mono hB.size)
  clear h2 hb3
  have hdd : (d != d) = false := by simp
  have hdd2 : (d == d) = true := by simp
  by_cases h0 : d = 0
  case pos =>
    subst h0
    rw [stOut_ok] at hS
    have hn30 := (plOk_of hd.out).2.len
    obtain ⟨b1, q1, rfl⟩ := hS.lv.lenV (lvs_len ns)
    obtain ⟨b2, q2, rfl⟩ := hS.tk.lenV (zeros_len _)
    obtain ⟨b3, q3, rfl⟩ := hS.lk.lenV (zeros_len _)
    have hx := (Below.refl w3.heap.size w3).alloc (Nat.le_refl _) (.cells #[.slice b1 ns.length q1, .slice b2 ns.length q2, .slice b3 ns.length q3] 44)
    have bT := BoxC.new w3 44 #[.slice b1 ns.length q1, .slice b2 ns.length q2, .slice b3 ns.length q3]
    replace bP := bP.grown hx
    replace c0 := bP.cell 0 rfl
    replace c1 := bP.cell 1 rfl
    replace hB := hB.trans (hx.mono hB.size)
    replace hS := hS.mono hx
    have h3 := Lib.hid (hch.out _ hB)
    clear hch hsp hrn hfi hle hst hbn hsf hcf hdf hd
    go_wp2_with fail
    refine h3.out.mono ?_
    rintro e w4 ⟨rfl, hb4⟩
    replace bP := bP.grown hb4
    replace bT := bT.grown hb4
    replace hB := hB.trans (hb4.mono hB.size)
    replace hS := hS.mono hb4
    clear h3 hb4 c0 c1 hx
    have hdr := (Below.refl w4.heap.size w4).drew
    have hU : ∀ X, Below w4.heap.size w4 X → X.cell? ⟨w3.heap.size, 0, none⟩ = some (.slice b1 ns.length q1) ∧ X.cell? ⟨w3.heap.size, 1, none⟩ = some (.slice b2 ns.length q2) ∧ X.cell? ⟨w3.heap.size, 2, none⟩ = some (.slice b3 ns.length q3) ∧
        X.cell? ⟨w.heap.size, 0, none⟩ = some (.int .i64 sup) ∧ X.cell? ⟨w.heap.size, 1, none⟩ = some (.slice av ns.length cv) := fun X hb =>
      ⟨(bT.grown hb).cell 0 rfl, (bT.grown hb).cell 1 rfl, (bT.grown hb).cell 2 rfl, (bP.grown hb).cell 0 rfl, (bP.grown hb).cell 1 rfl⟩
    have hu0 := hU _ hdr
    replace hU := Lib.hid hU
    have hc1 := Lib.hid (hsm.out (by omega) w4.drew (hB.trans (hdr.mono hB.size)))
    have hmk : ∀ X : World, (Instr.makeSlice 39 (.int .i64 (ns.length : Int)) (.int .i64 (ns.length : Int))).run Try.prog X = .ok (.slice (some ⟨X.heap.size, 0, none⟩) ns.length ns.length) (X.alloc (.cells (madeCells #[.int .i64 0] ns.length) 3)) := run_make39 ns.length hn30
    have hrg := fun X : World => (rowG_new (base := 0) (n := ns.length) (X := X) hn30 (Nat.zero_le _)).num ⟨_, _, rfl⟩
    replace hrg := Lib.hid hrg
    go_wp2_with fail
    go_region_held3 (fun X => X.cell? ⟨w3.heap.size, 0, none⟩ = some (.slice b1 ns.length q1) ∧ X.cell? ⟨w3.heap.size, 1, none⟩ = some (.slice b2 ns.length q2) ∧ X.cell? ⟨w3.heap.size, 2, none⟩ = some (.slice b3 ns.length q3) ∧
        X.cell? ⟨w.heap.size, 0, none⟩ = some (.int .i64 sup) ∧ X.cell? ⟨w.heap.size, 1, none⟩ = some (.slice av ns.length cv)) (first | exact hu5 | exact hu4 | exact hu3 | exact hu2 | exact hu1 | exact hu0)
      (first | (go_at_call 29; refine hc4.out.mono ?_; rintro e wc ⟨rfl, hbc⟩; have hxc := hxb.trans (hbc.mono hxb.size); have hu5 := hU.out _ hxc)
             | (go_at_call 29; refine hc3.out.mono ?_; rintro e wb ⟨rfl, hbb⟩; have hxb := hxm.trans (hbb.mono hxm.size); have hu4 := hU.out _ hxb; have hc4 := Same_any _ _ _ _ wb (hS.lk.mono hxb) (hS.tk.mono hxb) (by rw [zeros_len]; omega); rw [sameL_refl] at hc4; replace hc4 := Lib.hid hc4)
             | (go_at_call 29; refine hc2.out.mono ?_; rintro e wa ⟨rfl, hba⟩; have hxa := hx1.trans (hba.mono hx1.size); have hu2 := hU.out _ hxa; have hxm := hxa.alloc hxa.size (.cells (madeCells #[.int .i64 0] ns.length) 3); have hu3 := hU.out _ hxm; have hc3 := Same_any _ _ _ _ _ (hS.tk.mono hxm) (hrg.out wa) (by rw [zeros_len]; omega); rw [sameL_refl] at hc3; replace hc3 := Lib.hid hc3)
             | (go_at_call 19; refine hc1.out.mono ?_; rintro e wq ⟨y, rfl, hy, hbq⟩; have hx1 := hdr.trans (hbq.mono hdr.size); have hu1 := hU.out _ hx1; have hc2 := Same_any _ _ _ _ wq (hS.lv.mono hx1) hy (by rw [lvs_len]; omega); rw [sameL_refl] at hc2; replace hc2 := Lib.hid hc2; obtain ⟨ay, cy, rfl⟩ := hy.lenV (lvs_len ns)))
    go_wp2
    go_ret
    exact ⟨rfl, hB.trans (hxc.mono hB.size)⟩
  obtain ⟨g1, g2⟩ := neq_of h0
  rw [stOut_bad h0] at hS
  obtain ⟨b1, q1, rfl⟩ := hS.lv.lenV (n := 0) rfl
  obtain ⟨b2, q2, rfl⟩ := hS.tk.lenV (n := 0) rfl
  obtain ⟨b3, q3, rfl⟩ := hS.lk.lenV (n := 0) rfl
  have hx := (Below.refl w3.heap.size w3).alloc (Nat.le_refl _) (.cells #[.slice b1 0 q1, .slice b2 0 q2, .slice b3 0 q3] 44)
  have bT := BoxC.new w3 44 #[.slice b1 0 q1, .slice b2 0 q2, .slice b3 0 q3]
  replace bP := bP.grown hx
  replace c0 := bP.cell 0 rfl
  replace c1 := bP.cell 1 rfl
  replace hB := hB.trans (hx.mono hB.size)
  replace hS := hS.mono hx
  have h3 := Lib.hid (hch.out _ hB)
  clear hch hsm hx
  go_wp2_with fail
  refine h3.out.mono ?_
  rintro e w4 ⟨rfl, hb4⟩
  replace bP := bP.grown hb4
  replace c0 := bP.cell 0 rfl
  replace c1 := bP.cell 1 rfl
  replace bT := bT.grown hb4
  replace hB := hB.trans (hb4.mono hB.size)
  replace hS := hS.mono hb4
  have hsp1 := hsp.out w4 hB
  rw [hsf.out h0, stOut_bad h0] at hsp1
  replace hsp1 := Lib.hid hsp1
  clear h3 hb4 hsp hsf
  go_wp2_with fail
  refine hsp1.out.mono ?_
  rintro e w5 ⟨v1, v2, v3, rfl, hT, hb5⟩
  obtain ⟨e1, r1, rfl⟩ := hT.lv.lenV (n := 0) rfl
  obtain ⟨e2, r2, rfl⟩ := hT.tk.lenV (n := 0) rfl
  obtain ⟨e3, r3, rfl⟩ := hT.lk.lenV (n := 0) rfl
  have hx := (Below.refl w5.heap.size w5).alloc (Nat.le_refl _) (.cells #[.slice e1 0 r1, .slice e2 0 r2, .slice e3 0 r3] 44)
  have bX := BoxC.new w5 44 #[.slice e1 0 r1, .slice e2 0 r2, .slice e3 0 r3]
  have hb5x := hb5.trans (hx.mono hb5.size)
  replace bP := bP.grown hb5x
  replace c0 := bP.cell 0 rfl
  replace c1 := bP.cell 1 rfl
  replace bT := bT.grown hb5x
  replace hB := hB.trans (hb5x.mono hB.size)
  replace hS := hS.mono hb5x
  replace hT := hT.mono hx
  have hrn1 := Lib.hid (hrn.out hA4 _ hB)
  clear hsp1 hb5 hb5x hrn hx
  go_wp2_with fail
  refine hrn1.out.mono ?_
  rintro e w6 ⟨y, rfl, hb6, -, hy⟩
  have hcf1 := hcf.out h0
  rw [hcf1] at hy ⊢
  obtain rfl := hy h0
  replace bP := bP.grown hb6
  replace c0 := bP.cell 0 rfl
  replace c1 := bP.cell 1 rfl
  replace bT := bT.grown hb6
  replace bX := bX.grown hb6
  replace hB := hB.trans (hb6.mono hB.size)
  replace hS := hS.mono hb6
  replace hT := hT.mono hb6
  have hfi1 := hfi.out hA4 w6 hB
  rw [if_pos (by rw [hcf1]; exact h0), hcf1] at hfi1
  replace hfi1 := Lib.hid hfi1
  replace hcf1 := Lib.hid hcf1
  clear hrn1 hb6 hfi
  go_wp2_with fail
  refine hfi1.out.mono ?_
  rintro e w7 ⟨rfl, hb7⟩
  replace bP := bP.grown hb7
  replace c0 := bP.cell 0 rfl
  replace c1 := bP.cell 1 rfl
  replace bT := bT.grown hb7
  replace bX := bX.grown hb7
  replace hB := hB.trans (hb7.mono hB.size)
  replace hS := hS.mono hb7
  replace hT := hT.mono hb7
  have hle1 := Lib.hid (hle.out hA4 w7 hB)
  clear hfi1 hb7 hle
  go_wp2_with fail
  refine hle1.out.mono ?_
  rintro e w8 ⟨hb8, he, -⟩
  rw [hcf1.out] at he
  obtain rfl := he h0
  replace bP := bP.grown hb8
  replace c0 := bP.cell 0 rfl
  replace c1 := bP.cell 1 rfl
  replace bT := bT.grown hb8
  replace bX := bX.grown hb8
  replace hB := hB.trans (hb8.mono hB.size)
  replace hS := hS.mono hb8
  replace hT := hT.mono hb8
  have hst1 := Lib.hid (hst.out w8 hB)
  clear hle1 hb8 hst hcf hcf1
  go_wp2_with fail
  refine hst1.out.mono ?_
  rintro e w9 ⟨hb9, he, -⟩
  have hdf1 := hdf.out h0
  rw [hdf1] at he
  obtain rfl := he h0
  replace bP := bP.grown hb9
  replace c0 := bP.cell 0 rfl
  replace c1 := bP.cell 1 rfl
  replace bT := bT.grown hb9
  replace bX := bX.grown hb9
  replace hB := hB.trans (hb9.mono hB.size)
  replace hS := hS.mono hb9
  replace hT := hT.mono hb9
  have hbn1 := Lib.hid (hbn.out w9 hB)
  replace hdf1 := Lib.hid hdf1
  clear hst1 hb9 hbn
  go_wp2_with fail
  refine hbn1.out.mono ?_
  rintro e w10 ⟨hb10, he, -⟩
  rw [hdf1.out] at he
  obtain rfl := he h0
  replace bT := bT.grown hb10
  replace bX := bX.grown hb10
  replace hB := hB.trans (hb10.mono hB.size)
  replace hS := hS.mono hb10
  replace hT := hT.mono hb10
  have t0 := bT.cell 0 rfl
  have t1 := bT.cell 1 rfl
  have t2 := bT.cell 2 rfl
  have hz1 := zero_any _ _ _ noSt w10 hS ⟨by simp [noSt], by simp [noSt], by simp [noSt]⟩
  rw [show sameS noSt ⟨[], [], []⟩ = true from sameS_refl _] at hz1
  replace hz1 := Lib.hid hz1
  clear hbn1 hb10 hdf hdf1 hd c0 c1 bP h0
  go_wp2_with fail
  refine hz1.out.mono ?_
  rintro e w11 ⟨rfl, hb11⟩
  have bX2 := bX.grown hb11
  replace hB := hB.trans (hb11.mono hB.size)
  have x0 := bX2.cell 0 rfl
  have x1 := bX2.cell 1 rfl
  have x2 := bX2.cell 2 rfl
  have hz2 := zero_any _ _ _ noSt w11 (hT.mono hb11) ⟨by simp [noSt], by simp [noSt], by simp [noSt]⟩
  rw [show sameS noSt ⟨[], [], []⟩ = true from sameS_refl _] at hz2
  replace hz2 := Lib.hid hz2
  clear hz1 hb11 t0 t1 t2 bT bX hS hT
  go_wp2_with fail
  refine hz2.out.mono ?_
  rintro e w12 ⟨rfl, hb12⟩
  clear x0 x1 x2 hz2
  go_wp2
  go_ret
  exact ⟨rfl, hB.trans (hb12.mono hB.size)⟩
end Go.Proofs.Ytfefocgekmeahaa
