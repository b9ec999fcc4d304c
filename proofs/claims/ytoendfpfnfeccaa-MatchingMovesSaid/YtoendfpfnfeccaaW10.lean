/- The contracts of Bound, prove, Verify, checkPartial and VerifyPartial. Conditions: lists that fit into memory. -/
import Derived.Test.YtoendfpfnfeccaaW9
namespace Go.Proofs.Ytoendfpfnfeccaa
open Go.RowKit Go.Shelf

/-- what Bound answers -/
def boundF (css : List (List Int)) (rows ls : List Int) : Int × Int := if ckF css true ≠ 0 then (0, ckF css true) else potF css rows ls
set_option maxHeartbeats 1000000 in
theorem Bound_any (v r l : Value) (css : List (List Int)) (rows ls : List Int) (w : World) (hv : SlSl w v css) (hr : NumSl .i64 w r rows) (hl : NumSl .i64 w l ls) (hf : CsFit css) : Calls Try.prog 18 #[v, r, l] w (PairBelow (boundF css rows ls) w) := by
  have hck := Check_any v css w hv hf
  have htt := fun (h : ckF css true = 0) w' (hb : Below w.heap.size w w') => potentials_any v r l css rows ls w' (hv.mono hb) (hr.mono hb) (hl.mono hb) (csOk_of h).1
  obtain ⟨F, hF⟩ : ∃ F, boundF css rows ls = F := ⟨_, rfl⟩
  rw [hF]
  unfold boundF at hF
  obtain ⟨a, c, rfl⟩ := hv.len
  obtain ⟨ar, cr, rfl⟩ := hr.len
  obtain ⟨al, cl, rfl⟩ := hl.len
  generalize ckF css true = d at hck htt hF
  replace hck := Lib.hid hck
  replace htt := Lib.hid htt
  clear hv hr hl hf
  by_cases h0 : d = 0
  · rw [if_neg (by simp [h0])] at hF
    replace htt := Lib.hid (htt.out h0)
    subst h0
    rw [← hF]
    clear hF
    go_enter Try.func18, Try.ntmps18
    go_wp2_with fail
    refine hck.out.mono ?_
    rintro e w1 ⟨rfl, hb⟩
    go_wp2_with fail
    refine (htt.out _ hb).mono ?_
    rintro e w2 ⟨rfl, hb2⟩
    go_wp2
    go_ret2
    exact ⟨rfl, hb.trans (hb2.mono hb.size)⟩
  · rw [if_pos h0] at hF
    have h0b : (d != 0) = true := by simp [h0]
    replace h0 := Lib.hid h0
    subst hF
    go_enter Try.func18, Try.ntmps18
    go_wp2_with fail
    refine hck.out.mono ?_
    rintro e w1 ⟨rfl, hb⟩
    go_wp2
    go_ret2
    exact ⟨rfl, hb⟩

def aboveB (most n : Int) : Bool := decide (most < n)
set_option maxHeartbeats 400000 in
theorem aboveB_any (most n : Int) (b : Nat) (w : World) (hc : w.cell? ⟨b, 0, none⟩ = some (.int .i64 most)) : Calls Try.prog 48 #[.int .i64 n, .pointer (some ⟨b, 0, none⟩)] w (BoolBelow (aboveB most n) w) := by
  go_enter Try.func48, Try.ntmps48
  go_wp2
  go_ret
  exact ⟨rfl, Below.refl _ _⟩
/-- the error of a result, whose assignment has a total, or an error -/
def prvF (css : List (List Int)) (tot : Int) (rows ls : List Int) (sum e most : Int) : Int :=
  if e ≠ 0 then e else if sum ≠ tot then 7 else if (potF css rows ls).2 ≠ 0 then (potF css rows ls).2 else if (potF css rows ls).1 < tot ∨ anyF (aboveB most) rows = true then 20 else 0
abbrev resB (vc : Value) (tot : Int) (vr vl : Value) : Value := .agg #[vc, .int .i64 tot, vr, vl]
set_option maxRecDepth 100000 in
set_option maxHeartbeats 2000000 in
theorem prove_any (v vc vr vl : Value) (css : List (List Int)) (cs rows ls : List Int) (tot sum e most : Int) (w : World) (hv : SlSl w v css) (hc : NumSl .i64 w vc cs) (hr : NumSl .i64 w vr rows) (hl : NumSl .i64 w vl ls) (hok : CsOk css) (hrl : rows.length ≤ 4611686018427387904) :
    Calls Try.prog 41 #[v, resB vc tot vr vl, .int .i64 sum, .int .i64 e, .int .i64 most] w (IntBelow (prvF css tot rows ls sum e most) w) := by
  obtain ⟨F, hF⟩ : ∃ F, prvF css tot rows ls sum e most = F := ⟨_, rfl⟩
  rw [hF]
  unfold prvF at hF
  have hB : Below w.heap.size w ((w.alloc (.cells #[vc, .int .i64 tot, vr, vl] 32)).alloc (.cells #[.int .i64 most] 3)) := ((Below.refl _ w).alloc (Nat.le_refl _) _).alloc (by simp) _
  have b1 := (BoxC.new w 32 #[vc, .int .i64 tot, vr, vl]).alloc (.cells #[.int .i64 most] 3)
  have b2 := BoxC.new (w.alloc (.cells #[vc, .int .i64 tot, vr, vl] 32)) 3 #[.int .i64 most]
  rw [World.size_alloc] at b2
  have hpt := potentials_any v vr vl css rows ls _ (hv.mono hB) (hr.mono hB) (hl.mono hB) hok
  have hcf := fun w' (hb : Below w.heap.size w w') (hbx : BoxC w' (w.heap.size + 1) 3 #[.int .i64 most]) => containsFunc_any .i64 48 #[.pointer (some ⟨w.heap.size + 1, 0, none⟩)] (aboveB most) vr rows w'
    (fun n w'' hb2 => aboveB_any most n (w.heap.size + 1) w'' ((hbx.grown hb2).cell 0 rfl)) (enters_of Try.func48 (by kernel_rfl) rfl) (hr.mono hb) hrl
  obtain ⟨av, cv, rfl⟩ := hv.len
  obtain ⟨ac, cc, rfl⟩ := hc.len
  obtain ⟨ar, cr, rfl⟩ := hr.len
  obtain ⟨al, cl, rfl⟩ := hl.len
  replace hcf := Lib.hid hcf
  replace hF := Lib.hid hF
  clear hv hc hr hl hok hrl
  by_cases he : e = 0
  · subst he
    by_cases hs : sum = tot
    · subst hs
      have hF2 := Lib.hid (show (if (potF css rows ls).2 ≠ 0 then (potF css rows ls).2 else if (potF css rows ls).1 < sum ∨ anyF (aboveB most) rows = true then 20 else 0) = F by have := hF.out; simpa using this)
      clear hF
      obtain ⟨bd, d, hbd⟩ : ∃ bd d, potF css rows ls = (bd, d) := ⟨_, _, rfl⟩
      rw [hbd] at hpt hF2
      simp only at hF2
      have c1 := b1.cell 1 rfl
      have c2 := b1.cell 2 rfl
      have c3 := b1.cell 3 rfl
      replace hpt := Lib.hid hpt
      replace hF2 := Lib.hid hF2
      by_cases hd : d = 0
      · subst hd
        have hF3 := Lib.hid (show (if bd < sum ∨ anyF (aboveB most) rows = true then 20 else 0) = F by have := hF2.out.out; simpa using this)
        clear hF2
        by_cases hlt : bd < sum
        · have hltb : decide (bd < sum) = true := decide_eq_true hlt
          have hF20 : F = 20 := by rw [← hF3.out, if_pos (.inl hlt)]
          subst hF20
          clear hF3 hbd hlt
          go_enter Try.func41, Try.ntmps41
          go_wp2_with fail
          refine hpt.out.mono ?_
          rintro e w1 ⟨rfl, hb1⟩
          have hB1 := hB.trans (hb1.mono hB.size)
          have d1 := (b1.grown hb1).cell 1 rfl
          clear hpt hcf hb1 hB c1 c2 c3
          go_wp2
          go_ret
          exact ⟨rfl, hB1⟩
        · have hltb : decide (bd < sum) = false := decide_eq_false hlt
          obtain ⟨p, hp⟩ : ∃ p, anyF (aboveB most) rows = p := ⟨_, rfl⟩
          have hFp : F = if p = true then 20 else 0 := by rw [← hF3.out, hp]; simp [hlt]
          rw [hp] at hcf
          replace hp := Lib.hid hp
          replace hFp := Lib.hid hFp
          clear hF3 hbd hlt
          go_enter Try.func41, Try.ntmps41
          go_wp2_with fail
          refine hpt.out.mono ?_
          rintro e w1 ⟨rfl, hb1⟩
          have hB1 := hB.trans (hb1.mono hB.size)
          have b11 := b1.grown hb1
          have b21 := b2.grown hb1
          have d1 := b11.cell 1 rfl
          have d2 := b11.cell 2 rfl
          have hcf1 := Lib.hid (hcf.out _ hB1 b21)
          clear hpt hcf hb1 hB c1 c2 c3
          go_wp2_with fail
          refine hcf1.out.mono ?_
          rintro e w2 ⟨rfl, hb2⟩
          have hB2 := hB1.trans (hb2.mono hB1.size)
          clear hcf1 hb2 hB1
          cases p
          · have hF0 := hFp.out
            simp at hF0
            subst hF0
            clear hFp
            go_wp2
            go_ret
            exact ⟨rfl, hB2⟩
          · have hF0 := hFp.out
            simp at hF0
            subst hF0
            clear hFp
            go_wp2
            go_ret
            exact ⟨rfl, hB2⟩
      · have hFd : F = d := by rw [← hF2.out.out, if_pos hd]
        have hdb : (d != 0) = true := by simp [hd]
        subst hFd
        replace hd := Lib.hid hd
        clear hF2 hbd
        go_enter Try.func41, Try.ntmps41
        go_wp2_with fail
        refine hpt.out.mono ?_
        rintro e w1 ⟨rfl, hb1⟩
        have hB1 := hB.trans (hb1.mono hB.size)
        clear hpt hcf hb1 hB c1 c2 c3
        go_wp2
        go_ret
        exact ⟨rfl, hB1⟩
    · have hF7 : F = 7 := by rw [← hF.out, if_neg (by simp), if_pos hs]
      have hb : (sum != tot) = true := by simp [hs]
      subst hF7
      replace hpt := Lib.hid hpt
      replace hs := Lib.hid hs
      clear hF
      go_enter Try.func41, Try.ntmps41
      go_wp2
      go_ret
      exact ⟨rfl, hB⟩
  · have hFe : F = e := by rw [← hF.out, if_pos he]
    have hb : (e != 0) = true := by simp [he]
    subst hFe
    replace hpt := Lib.hid hpt
    replace he := Lib.hid he
    clear hF
    go_enter Try.func41, Try.ntmps41
    go_wp2
    go_ret
    exact ⟨rfl, hB⟩

/-- the error of a result for a total and an error of its columns -/
def afterF (css : List (List Int)) (tot : Int) (rows ls : List Int) (p : Int × Int) (most : Int) : Int := prvF css tot rows ls p.1 p.2 most
/-- what Verify answers -/
def verF (css : List (List Int)) (cs : List Int) (tot : Int) (rows ls : List Int) : Int := if ckF css true ≠ 0 then ckF css true else afterF css tot rows ls (totF css cs false 0) 1000000000000
def ckP (css : List (List Int)) (skip : Int) : Int := if ckF css false ≠ 0 then ckF css false else if badC skip = true then 3 else 0
/-- what VerifyPartial answers -/
def verP (css : List (List Int)) (skip : Int) (cs : List Int) (tot : Int) (rows ls : List Int) : Int := if ckP css skip ≠ 0 then ckP css skip else afterF css tot rows ls (totF css cs true skip) skip

set_option maxHeartbeats 1000000 in
theorem Verify_any (v vc vr vl : Value) (css : List (List Int)) (cs rows ls : List Int) (tot : Int) (w : World) (hv : SlSl w v css) (hc : NumSl .i64 w vc cs) (hr : NumSl .i64 w vr rows) (hl : NumSl .i64 w vl ls) (hf : CsFit css) (hrl : rows.length ≤ 4611686018427387904) :
    Calls Try.prog 27 #[v, resB vc tot vr vl] w (IntBelow (verF css cs tot rows ls) w) := by
  obtain ⟨F, hF⟩ : ∃ F, verF css cs tot rows ls = F := ⟨_, rfl⟩
  rw [hF]
  unfold verF at hF
  have hB : Below w.heap.size w (w.alloc (.cells #[vc, .int .i64 tot, vr, vl] 32)) := (Below.refl _ w).alloc (Nat.le_refl _) _
  have b1 := BoxC.new w 32 #[vc, .int .i64 tot, vr, vl]
  have hck := Check_any v css _ (hv.mono hB) hf
  have htt := fun (h : ckF css true = 0) w' (hb : Below w.heap.size w w') => total_any v vc css cs false 0 0 w' (hv.mono hb) (hc.mono hb) (csOk_of h).1 (by omega) (.inr ⟨rfl, rfl⟩)
  have hpv := fun (h : ckF css true = 0) w' (hb : Below w.heap.size w w') (sum e : Int) => prove_any v vc vr vl css cs rows ls tot sum e 1000000000000 w' (hv.mono hb) (hc.mono hb) (hr.mono hb) (hl.mono hb) (csOk_of h).1 hrl
  obtain ⟨av, cv, rfl⟩ := hv.len
  obtain ⟨ac, cc, rfl⟩ := hc.len
  obtain ⟨ar, cr, rfl⟩ := hr.len
  obtain ⟨al, cl, rfl⟩ := hl.len
  generalize ckF css true = d at hck htt hpv hF
  replace hck := Lib.hid hck
  replace htt := Lib.hid htt
  replace hpv := Lib.hid hpv
  replace hF := Lib.hid hF
  clear hv hc hr hl hf hrl
  have c0 := b1.cell 0 rfl
  have c1 := b1.cell 1 rfl
  have c2 := b1.cell 2 rfl
  have c3 := b1.cell 3 rfl
  by_cases h0 : d = 0
  · have hFa : afterF css tot rows ls (totF css cs false 0) 1000000000000 = F := by rw [← hF.out, if_neg (by simp [h0])]
    obtain ⟨p1, p2, hp⟩ : ∃ p1 p2, totF css cs false 0 = (p1, p2) := ⟨_, _, rfl⟩
    have htt2 := htt.out h0
    rw [hp] at htt2 hFa
    have hpv2 := hpv.out h0
    have hpv3 := fun w' hb => hpv2 w' hb p1 p2
    rw [show prvF css tot rows ls p1 p2 1000000000000 = F from hFa] at hpv3
    replace htt2 := Lib.hid htt2
    replace hpv3 := Lib.hid hpv3
    subst h0
    clear hF htt hpv hp hFa hpv2
    go_enter Try.func27, Try.ntmps27
    go_wp2_with fail
    refine hck.out.mono ?_
    rintro e w1 ⟨rfl, hb1⟩
    have hB1 := hB.trans (hb1.mono hB.size)
    have b11 := b1.grown hb1
    have d0 := b11.cell 0 rfl
    clear hck c0 c1 c2 c3
    go_wp2_with fail
    refine (htt2.out _ hB1).mono ?_
    rintro e w2 ⟨rfl, hb2⟩
    have hB2 := hB1.trans (hb2.mono hB1.size)
    have b12 := b11.grown hb2
    have e0 := b12.cell 0 rfl
    have e1 := b12.cell 1 rfl
    have e2 := b12.cell 2 rfl
    have e3 := b12.cell 3 rfl
    clear d0 htt2
    go_wp2_with fail
    refine (hpv3.out _ hB2).mono ?_
    rintro e w3 ⟨rfl, hb3⟩
    go_wp2
    go_ret
    exact ⟨rfl, hB2.trans (hb3.mono hB2.size)⟩
  · have hFd : F = d := by rw [← hF.out, if_pos h0]
    have h0b : (d != 0) = true := by simp [h0]
    replace h0 := Lib.hid h0
    subst hFd
    clear hF htt hpv
    go_enter Try.func27, Try.ntmps27
    go_wp2_with fail
    refine hck.out.mono ?_
    rintro e w1 ⟨rfl, hb⟩
    go_wp2
    go_ret
    exact ⟨rfl, hB.trans (hb.mono hB.size)⟩

set_option maxHeartbeats 1000000 in
theorem checkPartial_any (v : Value) (css : List (List Int)) (skip : Int) (w : World) (hv : SlSl w v css) (hf : CsFit css) : Calls Try.prog 35 #[v, .int .i64 skip] w (IntBelow (ckP css skip) w) := by
  obtain ⟨F, hF⟩ : ∃ F, ckP css skip = F := ⟨_, rfl⟩
  rw [hF]
  unfold ckP at hF
  have hck := check_any v css false w hv hf
  obtain ⟨av, cv, rfl⟩ := hv.len
  generalize ckF css false = d at hck hF
  replace hck := Lib.hid hck
  clear hv hf
  by_cases h0 : d = 0
  · rw [if_neg (by simp [h0])] at hF
    subst h0
    by_cases hlo : skip < -1000000000
    · have hb1 : decide (skip < -1000000000) = true := decide_eq_true hlo
      rw [if_pos (by unfold badC; rw [betw_false (by omega)]; rfl)] at hF
      subst hF
      clear hlo
      go_enter Try.func35, Try.ntmps35
      go_wp2_with fail
      refine hck.out.mono ?_
      rintro e w1 ⟨rfl, hb⟩
      go_wp2
      go_ret
      exact ⟨rfl, hb⟩
    · have hb1 : decide (skip < -1000000000) = false := decide_eq_false hlo
      by_cases hhi : 1000000000 < skip
      · have hb2 : decide (1000000000 < skip) = true := decide_eq_true hhi
        rw [if_pos (by unfold badC; rw [betw_false (by omega)]; rfl)] at hF
        subst hF
        clear hlo hhi
        go_enter Try.func35, Try.ntmps35
        go_wp2_with fail
        refine hck.out.mono ?_
        rintro e w1 ⟨rfl, hb⟩
        go_wp2
        go_ret
        exact ⟨rfl, hb⟩
      · have hb2 : decide (1000000000 < skip) = false := decide_eq_false hhi
        rw [if_neg (by unfold badC; rw [betw_true (by omega)]; simp)] at hF
        subst hF
        clear hlo hhi
        go_enter Try.func35, Try.ntmps35
        go_wp2_with fail
        refine hck.out.mono ?_
        rintro e w1 ⟨rfl, hb⟩
        go_wp2
        go_ret
        exact ⟨rfl, hb⟩
  · rw [if_pos h0] at hF
    have h0b : (d != 0) = true := by simp [h0]
    replace h0 := Lib.hid h0
    subst hF
    go_enter Try.func35, Try.ntmps35
    go_wp2_with fail
    refine hck.out.mono ?_
    rintro e w1 ⟨rfl, hb⟩
    go_wp2
    go_ret
    exact ⟨rfl, hb⟩
theorem ckP_ok {css : List (List Int)} {skip : Int} (h : ckP css skip = 0) : CsOk css ∧ -1000000000 ≤ skip ∧ skip ≤ 1000000000 := by
  unfold ckP at h
  split at h
  · rename_i h1; exact absurd h h1
  · rename_i h1
    split at h
    · cases h
    · rename_i h2
      refine ⟨(csOk_of (whole := false) (Decidable.byContradiction h1)).1, ?_⟩
      rw [Bool.not_eq_true] at h2
      exact betw_iff.1 (by simpa [badC] using h2)

set_option maxHeartbeats 1000000 in
theorem VerifyPartial_any (v vc vr vl : Value) (css : List (List Int)) (skip : Int) (cs rows ls : List Int) (tot : Int) (w : World) (hv : SlSl w v css) (hc : NumSl .i64 w vc cs) (hr : NumSl .i64 w vr rows) (hl : NumSl .i64 w vl ls) (hf : CsFit css) (hrl : rows.length ≤ 4611686018427387904) :
    Calls Try.prog 30 #[v, .int .i64 skip, resB vc tot vr vl] w (IntBelow (verP css skip cs tot rows ls) w) := by
  obtain ⟨F, hF⟩ : ∃ F, verP css skip cs tot rows ls = F := ⟨_, rfl⟩
  rw [hF]
  unfold verP at hF
  have hB : Below w.heap.size w (w.alloc (.cells #[vc, .int .i64 tot, vr, vl] 32)) := (Below.refl _ w).alloc (Nat.le_refl _) _
  have b1 := BoxC.new w 32 #[vc, .int .i64 tot, vr, vl]
  have hck := checkPartial_any v css skip _ (hv.mono hB) hf
  have htt := fun (h : ckP css skip = 0) w' (hb : Below w.heap.size w w') => total_any v vc css cs true (-1) skip w' (hv.mono hb) (hc.mono hb) (ckP_ok h).1 (ckP_ok h).2 (.inl ⟨rfl, rfl⟩)
  have hpv := fun (h : ckP css skip = 0) w' (hb : Below w.heap.size w w') (sum e : Int) => prove_any v vc vr vl css cs rows ls tot sum e skip w' (hv.mono hb) (hc.mono hb) (hr.mono hb) (hl.mono hb) (ckP_ok h).1 hrl
  obtain ⟨av, cv, rfl⟩ := hv.len
  obtain ⟨ac, cc, rfl⟩ := hc.len
  obtain ⟨ar, cr, rfl⟩ := hr.len
  obtain ⟨al, cl, rfl⟩ := hl.len
  generalize ckP css skip = d at hck htt hpv hF
  replace hck := Lib.hid hck
  replace htt := Lib.hid htt
  replace hpv := Lib.hid hpv
  replace hF := Lib.hid hF
  clear hv hc hr hl hf hrl
  have c0 := b1.cell 0 rfl
  have c1 := b1.cell 1 rfl
  have c2 := b1.cell 2 rfl
  have c3 := b1.cell 3 rfl
  by_cases h0 : d = 0
  · have hFa : afterF css tot rows ls (totF css cs true skip) skip = F := by rw [← hF.out, if_neg (by simp [h0])]
    obtain ⟨p1, p2, hp⟩ : ∃ p1 p2, totF css cs true skip = (p1, p2) := ⟨_, _, rfl⟩
    have htt2 := htt.out h0
    rw [hp] at htt2 hFa
    have hpv2 := hpv.out h0
    have hpv3 := fun w' hb => hpv2 w' hb p1 p2
    rw [show prvF css tot rows ls p1 p2 skip = F from hFa] at hpv3
    replace htt2 := Lib.hid htt2
    replace hpv3 := Lib.hid hpv3
    subst h0
    clear hF htt hpv hp hFa hpv2
    go_enter Try.func30, Try.ntmps30
    go_wp2_with fail
    refine hck.out.mono ?_
    rintro e w1 ⟨rfl, hb1⟩
    have hB1 := hB.trans (hb1.mono hB.size)
    have b11 := b1.grown hb1
    have d0 := b11.cell 0 rfl
    clear hck c0 c1 c2 c3
    go_wp2_with fail
    refine (htt2.out _ hB1).mono ?_
    rintro e w2 ⟨rfl, hb2⟩
    have hB2 := hB1.trans (hb2.mono hB1.size)
    have b12 := b11.grown hb2
    have e0 := b12.cell 0 rfl
    have e1 := b12.cell 1 rfl
    have e2 := b12.cell 2 rfl
    have e3 := b12.cell 3 rfl
    clear d0 htt2
    go_wp2_with fail
    refine (hpv3.out _ hB2).mono ?_
    rintro e w3 ⟨rfl, hb3⟩
    go_wp2
    go_ret
    exact ⟨rfl, hB2.trans (hb3.mono hB2.size)⟩
  · have hFd : F = d := by rw [← hF.out, if_pos h0]
    have h0b : (d != 0) = true := by simp [h0]
    replace h0 := Lib.hid h0
    subst hFd
    clear hF htt hpv
    go_enter Try.func30, Try.ntmps30
    go_wp2_with fail
    refine hck.out.mono ?_
    rintro e w1 ⟨rfl, hb⟩
    go_wp2
    go_ret
    exact ⟨rfl, hB.trans (hb.mono hB.size)⟩
end Go.Proofs.Ytoendfpfnfeccaa
