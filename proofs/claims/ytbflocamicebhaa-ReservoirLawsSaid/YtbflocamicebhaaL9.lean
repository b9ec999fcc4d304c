/- The walk of ReservoirRuns. Conditions: the plan's numbers are bytes (PlanOk). -/
import Derived.Test.YtbflocamicebhaaL3
import Derived.Test.YtbflocamicebhaaW10
import Derived.RegionTactic
import Derived.Deep.DeepCutAuto
import Derived.Deep.CutBlock
import Derived.Deep.LoopGhost
namespace Go.Proofs.Ytbflocamicebhaa
open Go.RowKit Go.Shelf

theorem FlatSl.at {w : World} {v : Value} {n : Nat} {cs : List Value} (h : FlatSl w v n cs) (hn : 0 < n) : ∃ b cap, v = .slice (some ⟨b, 0, none⟩) n cap ∧ b < w.heap.size ∧ ∀ j u, cs[j]? = some u → w.cell? ⟨b, j, none⟩ = some u := by
  rcases h with ⟨_, h0, _⟩ | h
  · omega
  · exact h

/-- the first index below k with p, or -1 -/
def fstF (p : Nat → Bool) : Nat → Int
  | 0 => -1
  | k + 1 => if fstF p k < 0 then (if p k then k else -1) else fstF p k

theorem fstF_spec (p : Nat → Bool) : ∀ k, (fstF p k = -1 ∧ ∀ j, j < k → p j = false) ∨ ∃ i : Nat, i < k ∧ fstF p k = i ∧ p i = true ∧ ∀ j, j < i → p j = false
  | 0 => .inl ⟨rfl, fun j hj => by omega⟩
  | k + 1 => by
    unfold fstF
    rcases fstF_spec p k with ⟨h1, h2⟩ | ⟨i, h1, h2, h3, h4⟩
    · rw [h1, if_pos (by omega)]
      cases hp : p k
      · refine .inl ⟨by simp, fun j hj => ?_⟩
        rcases Nat.lt_or_ge j k with h | h
        · exact h2 j h
        · obtain rfl : j = k := by omega
          exact hp
      · exact .inr ⟨k, by omega, by simp, hp, h2⟩
    · rw [h2, if_neg (by omega)]
      exact .inr ⟨i, by omega, rfl, h3, h4⟩

theorem firstF_fst (p : Nat → Bool) (n : Nat) : firstF p n = (max (fstF p n) 0, decide (0 ≤ fstF p n)) := by
  rcases fstF_spec p n with ⟨h1, h2⟩ | ⟨i, h1, h2, h3, h4⟩
  · rw [firstF_none (fun x _ => h2 x.val x.isLt), h1]
    rfl
  · have hx : (List.finRange n).take i ++ [⟨i, h1⟩] <+: List.finRange n := by rw [← take_fin h1]; exact List.take_prefix _ _
    rw [firstF_some hx (fun y hy => ?_) h3, h2]
    · simp
    · obtain ⟨j, hj, rfl⟩ := List.getElem_of_mem hy
      simp at hj
      simp [h4 j (by omega)]

theorem fstF_next (p : Nat → Bool) (k : Nat) : (p k = true ∧ fstF p k < 0 → fstF p (k + 1) = k) ∧ (p k = false ∨ 0 ≤ fstF p k → fstF p (k + 1) = fstF p k) := by
  constructor
  · rintro ⟨h1, h2⟩
    rw [fstF, if_pos h2, h1]
    rfl
  · rintro (h1 | h1)
    · rw [fstF, h1]
      rcases fstF_spec p k with ⟨h2, _⟩ | ⟨i, _, h2, _⟩
      · simp [h2]
      · rw [h2, if_neg (by omega)]
    · rw [fstF, if_neg (by omega)]

theorem fstF_low (p : Nat → Bool) (k : Nat) : -1 ≤ fstF p k ∧ fstF p k < k + 1 := by
  rcases fstF_spec p k with ⟨h2, _⟩ | ⟨i, h1, h2, _⟩
  · omega
  · omega

/-- sums and first indices behind k rounds -/
def Sums (c l s q : Int) (xs : List Int) (k : Nat) (u v m f g : Value) : Prop :=
  u = .int .i64 (totF (useF c s l xs) k) ∧ v = .int .i64 (totF (wasF c s l xs) k) ∧ m = .int .i64 (totF (misF c s l xs) k) ∧ f = .int .i64 (fstF (missP c s l xs) k) ∧ g = .int .i64 (fstF (sagP c s l q xs) k)

set_option maxRecDepth 100000 in
set_option maxHeartbeats 4000000 in
theorem law9_any (pc pl ps pq : Int) (v : Value) (ds : List Int) (h : PlanOk pc pl ps pq ds) (w : World) (hv : ByteSl w v ds) :
    Calls Try.prog 9 #[plV pc pl ps pq v] w fun e w' => e = .returned (.bool true) ∧ Below w.heap.size w w' := by
  have hb := (Below.refl w.heap.size w).alloc (Nat.le_refl _) (.cells #[.int .u8 pc, .int .u8 pl, .int .u8 ps, .int .u8 pq, v] 24)
  have bP := BoxC.new w 24 #[.int .u8 pc, .int .u8 pl, .int .u8 ps, .int .u8 pq, v]
  have hv0 := hv.mono hb
  obtain ⟨a, cap, hva⟩ := hv.len
  subst hva
  go_enter Try.func9, Try.ntmps9
  go_wp2_with fail
  refine (known_any _).mono ?_
  rintro e w1 ⟨rfl, hb1⟩
  have hB1 := hb.trans (hb1.mono hb.size)
  have bP1 := bP.grown hb1
  have hv1 := hv0.mono hb1
  clear hb bP hv0 hb1
  have p0 := bP1.cell 0 rfl
  have p1 := bP1.cell 1 rfl
  have p2 := bP1.cell 2 rfl
  have p3 := bP1.cell 3 rfl
  have p4 := bP1.cell 4 rfl
  go_wp2_with fail
  refine (fits_any pc pl ps pq _ ds w1 hv1 h.len).mono ?_
  rintro e w2 ⟨rfl, hb2⟩
  have hB2 := hB1.trans (hb2.mono hB1.size)
  have bP2 := bP1.grown hb2
  have hv2 := hv1.mono hb2
  clear hB1 bP1 hv1 hb2 p0 p1 p2 p3 p4 hv
  by_cases hf : ds.length ≤ 12
  · have hf2 : decide (ds.length ≤ 12) = true := by simpa using hf
    have p0 := bP2.cell 0 rfl
    have p1 := bP2.cell 1 rfl
    have p2 := bP2.cell 2 rfl
    have p3 := bP2.cell 3 rfl
    have p4 := bP2.cell 4 rfl
    go_wp2_with fail
    refine (make_any pc pl ps pq h.b4 _ ds h.bd w2 hv2 h.len).mono ?_
    rintro e w3 ⟨v, hiv, rfl, hb3⟩
    have hB3 := hB2.trans (hb3.mono hB2.size)
    clear hB2 bP2 hv2 hb3 p0 p1 p2 p3 p4
    have ho := h.okay
    have hdm := h.dem
    have hx := h.xs
    have hq0 := h.least.1
    have hq1 := h.least.2
    have hb4c := h.b4.c1
    have hb4s := h.b4.s1
    have hl12 : (ds.take 12).length ≤ 12 := by simp; omega
    have hs0 := ho.s0
    generalize hlv : pl % (pc + 1) = l at ho hdm ⊢
    generalize hqv : pq % (pc + 1) = q at ho hdm hq0 hq1 ⊢
    generalize hxs : ds.take 12 = xs at ho hdm hx hiv hl12 ⊢
    clear hlv hqv hxs
    obtain ⟨a2, cap2, hv2⟩ := hiv.len
    have bR := BoxC.new w3 28 #[.int .i64 pc, .int .i64 l, .int .i64 ps, .int .i64 q]
    have hb4 := (Below.refl w3.heap.size w3).alloc (Nat.le_refl _) (.cells #[.int .i64 pc, .int .i64 l, .int .i64 ps, .int .i64 q] 28)
    have hB4 := hB3.trans (hb4.mono hB3.size)
    have hiv2 := hiv.mono hb4
    subst hv2
    have hnl : xs.length ≤ 140737488355328 := by omega
    have hRu := fun w hv => Run_any pc l ps q (.slice a2 xs.length cap2) xs w hv hnl
    have hFa := fun w hv => Fails_any pc l ps q (.slice a2 xs.length cap2) xs w hv hnl
    have hSa := fun w hv => Sags_any pc l ps q (.slice a2 xs.length cap2) xs w hv hnl
    have hTo := fun w hv => Totals_any pc l ps q (.slice a2 xs.length cap2) xs w hv hnl
    have hrn := fun w hv => run_any pc l ps q (.slice a2 xs.length cap2) xs ho w hv
    simp only [hdm, ifOk_zero] at hRu hFa hSa hTo
    clear hdm
    go_wp2_with fail
    refine (hRu _ hiv2).mono ?_
    rintro e w4 ⟨hb5, hR, -⟩
    obtain ⟨v1, hf1, -, rfl⟩ := hR rfl
    obtain ⟨a4, cap4, rfl⟩ := hf1.len
    have hB5 := hB4.trans (hb5.mono hB4.size)
    have bR5 := bR.grown hb5
    have hiv5 := hiv2.mono hb5
    clear hB3 hb4 hB4 hb5 hR hRu hiv bR
    have c0 := bR5.cell 0 rfl
    have c1 := bR5.cell 1 rfl
    have c2 := bR5.cell 2 rfl
    have c3 := bR5.cell 3 rfl
    go_wp2_with fail
    refine (hFa _ hiv5).mono ?_
    rintro e w5 ⟨rfl, hb6⟩
    have hB6 := hB5.trans (hb6.mono hB5.size)
    have bR6 := bR5.grown hb6
    have hiv6 := hiv5.mono hb6
    have hf6 := hf1.mono hb6
    clear hB5 hb6 bR5 hiv5 hf1 hFa c0 c1 c2 c3
    have c0 := bR6.cell 0 rfl
    have c1 := bR6.cell 1 rfl
    have c2 := bR6.cell 2 rfl
    have c3 := bR6.cell 3 rfl
    go_wp2_with fail
    refine (hSa _ hiv6).mono ?_
    rintro e w6 ⟨rfl, hb7⟩
    have hB7 := hB6.trans (hb7.mono hB6.size)
    have bR7 := bR6.grown hb7
    have hiv7 := hiv6.mono hb7
    have hf7 := hf6.mono hb7
    clear hB6 hb7 bR6 hiv6 hf6 hSa c0 c1 c2 c3
    have c0 := bR7.cell 0 rfl
    have c1 := bR7.cell 1 rfl
    have c2 := bR7.cell 2 rfl
    have c3 := bR7.cell 3 rfl
    go_wp2_with fail
    refine (hTo _ hiv7).mono ?_
    rintro e w7 ⟨hb8, hT, -⟩
    obtain rfl := hT rfl
    have hB8 := hB7.trans (hb8.mono hB7.size)
    have bR8 := bR7.grown hb8
    have hiv8 := hiv7.mono hb8
    have hf8 := hf7.mono hb8
    clear hB7 hb8 bR7 hiv7 hf7 hT hTo c0 c1 c2 c3
    have c0 := bR8.cell 0 rfl
    have c1 := bR8.cell 1 rfl
    have c2 := bR8.cell 2 rfl
    have c3 := bR8.cell 3 rfl
    go_wp2_with fail
    refine (hrn _ hiv8).mono ?_
    rintro e w8 ⟨hb9, v2, hg9, -, rfl⟩
    obtain ⟨a9, cap9, rfl⟩ := hg9.len
    have hB9 := hB8.trans (hb9.mono hB8.size)
    have bR9 := bR8.grown hb9
    have hiv9 := hiv8.mono hb9
    have hf9 := hf8.mono hb9
    clear hB8 hb9 bR8 hiv8 hf8 hrn c0 c1 c2 c3
    have c0 := bR9.cell 0 rfl
    have c1 := bR9.cell 1 rfl
    have c2 := bR9.cell 2 rfl
    have c3 := bR9.cell 3 rfl
    obtain ⟨F, hF⟩ : ∃ F, fstF (missP pc ps l xs) xs.length = F := ⟨_, rfl⟩
    obtain ⟨G, hG⟩ : ∃ G, fstF (sagP pc ps l q xs) xs.length = G := ⟨_, rfl⟩
    have hF1 : (failF pc ps l xs).1 = max F 0 := by rw [← hF]; exact congrArg Prod.fst (firstF_fst _ _)
    have hF2 : (failF pc ps l xs).2 = decide (0 ≤ F) := by rw [← hF]; exact congrArg Prod.snd (firstF_fst _ _)
    have hG1 : (sagF pc ps l q xs).1 = max G 0 := by rw [← hG]; exact congrArg Prod.fst (firstF_fst _ _)
    have hG2 : (sagF pc ps l q xs).2 = decide (0 ≤ G) := by rw [← hG]; exact congrArg Prod.snd (firstF_fst _ _)
    rw [hF1, hF2, hG1, hG2]
    have hF := Lib.hid hF
    have hG := Lib.hid hG
    clear hF1 hF2 hG1 hG2
    obtain ⟨U, hU⟩ : ∃ U, totF (useF pc ps l xs) xs.length = U := ⟨_, rfl⟩
    obtain ⟨V, hV⟩ : ∃ V, totF (wasF pc ps l xs) xs.length = V := ⟨_, rfl⟩
    obtain ⟨M, hM⟩ : ∃ M, totF (misF pc ps l xs) xs.length = M := ⟨_, rfl⟩
    rw [hU, hV, hM]
    have hU := Lib.hid hU
    have hV := Lib.hid hV
    have hM := Lib.hid hM
    go_wp2
    go_loopw [18, 19, 20, 21, 22, 23] (fun t18 t19 t20 t21 t22 t23 wr => ∃ k : Nat, k ≤ xs.length ∧ t23 = .int .i64 k ∧ Sums pc l ps q xs k t18 t19 t20 t21 t22 ∧ Below w8.heap.size w8 wr) (fun _ _ _ _ _ i _ => xs.length - (intOf i).toNat)
    case atStart => exact ⟨0, by omega, rfl, ⟨rfl, rfl, rfl, rfl, rfl⟩, Below.refl _ _⟩
    case round =>
      obtain ⟨k, hk, rfl, ⟨rfl, rfl, rfl, rfl, rfl⟩, hBr⟩ := hrel
      by_cases hlt : k < xs.length
      · have hn0 : 0 < xs.length := by omega
        obtain ⟨b1, cap1, he1, hl1, hc1⟩ := hf9.at hn0
        cases he1
        obtain ⟨b2, cap2', he2, hl2, hc2⟩ := hg9.at hn0
        cases he2
        obtain ⟨b3, off3, cap3, he3, hc3⟩ := hiv9.at hlt
        cases he3
        obtain ⟨s0, s1, s2⟩ := runCells_three hc1 hlt
        obtain ⟨t0, t1, t2⟩ := runCells_three hc2 hlt
        replace s0 := (hBr.cell (p := ⟨b1, k * 3, none⟩) hl1).trans s0
        replace s1 := (hBr.cell (p := ⟨b1, k * 3 + 1, none⟩) hl1).trans s1
        replace s2 := (hBr.cell (p := ⟨b1, k * 3 + 2, none⟩) hl1).trans s2
        replace t0 := (hBr.cell (p := ⟨b2, k * 3, none⟩) hl2).trans t0
        replace t1 := (hBr.cell (p := ⟨b2, k * 3 + 1, none⟩) hl2).trans t1
        replace t2 := (hBr.cell (p := ⟨b2, k * 3 + 2, none⟩) hl2).trans t2
        replace hc3 := (hBr.cell (p := ⟨b3, off3 + k, none⟩) (lt_of_cell hc3)).trans hc3
        have bRr := bR9.grown hBr
        have r0 := bRr.cell 0 rfl
        have r1 := bRr.cell 1 rfl
        have r2 := bRr.cell 2 rfl
        have r3 := bRr.cell 3 rfl
        have hst := ho.st k
        have hd1 := ho.d1 k
        have hu : ∀ k, 0 ≤ useF pc ps l xs k ∧ useF pc ps l xs k ≤ 2000000000 := fun k => by have h1 := ho.st k; have h2 := ho.d1 k; unfold useF; omega
        have hw : ∀ k, 0 ≤ wasF pc ps l xs k ∧ wasF pc ps l xs k ≤ 2000000000 := fun k => by have h1 := ho.st k; unfold wasF; omega
        have hi : ∀ k, 0 ≤ misF pc ps l xs k ∧ misF pc ps l xs k ≤ 2000000000 := fun k => by have h1 := ho.st k; have h2 := ho.d1 k; unfold misF; omega
        have su := totF_range hu k
        have sw := totF_range hw k
        have si := totF_range hi k
        have hk12 : (k : Int) * 2000000000 ≤ 24000000000 := by omega
        have hxk : (xs[k]?.getD 0) = xs[k] := by simp [hlt]
        have ku : totF (useF pc ps l xs) (k + 1) = totF (useF pc ps l xs) k + xs[k] - (stAt pc ps l xs k).2.2 := by
          show totF (useF pc ps l xs) k + useF pc ps l xs k = _
          unfold useF; rw [hxk]; omega
        have kw : totF (wasF pc ps l xs) (k + 1) = totF (wasF pc ps l xs) k + (stAt pc ps l xs k).2.1 := rfl
        have ki : totF (misF pc ps l xs) (k + 1) = totF (misF pc ps l xs) k + (stAt pc ps l xs k).2.2 := rfl
        have kf := fstF_next (missP pc ps l xs) k
        have kg := fstF_next (sagP pc ps l q xs) k
        have lf := fstF_low (missP pc ps l xs) k
        have lg := fstF_low (sagP pc ps l q xs) k
        have pm : missP pc ps l xs k = decide (0 < (stAt pc ps l xs k).2.2) := rfl
        have ps' : sagP pc ps l q xs k = decide ((stAt pc ps l xs k).1 < q) := rfl
        rw [pm] at kf
        rw [ps'] at kg
        rw [hxk] at hc3 hst hd1
        clear hc1 hc2 hu hw hi pm ps' hxk hf9 hg9 hiv9
        have ku := Lib.hid ku
        have kw := Lib.hid kw
        have ki := Lib.hid ki
        have kf := Lib.hid kf
        have kg := Lib.hid kg
        generalize stAt pc ps l xs k = st at s0 s1 s2 t0 t1 t2 hst ku kw ki kf kg
        obtain ⟨lv, wst, mis⟩ := st
        simp only at s0 s1 s2 t0 t1 t2 hst
        generalize xs[k] = dk at hc3 hst hd1 ku
        generalize totF (useF pc ps l xs) k = uk at su ku ⊢
        generalize totF (wasF pc ps l xs) k = vk at sw kw ⊢
        generalize totF (misF pc ps l xs) k = mk at si ki ⊢
        generalize fstF (missP pc ps l xs) k = fk at kf lf ⊢
        generalize fstF (sagP pc ps l q xs) k = gk at kg lg ⊢
        have hBd := hBr.drew
        go_wp2_with fail
        go_region
        go_wp2_with fail
        go_region
        have hBd2 := hBd.drew
        have hps := ho.s1
        have hf3 : (0 < mis ∧ fk < 0 ∧ fstF (missP pc ps l xs) (k + 1) = k) ∨ (mis ≤ 0 ∧ fstF (missP pc ps l xs) (k + 1) = fk) ∨ (0 < mis ∧ 0 ≤ fk ∧ fstF (missP pc ps l xs) (k + 1) = fk) := by
          rcases Int.lt_or_le 0 mis with h1 | h1
          · rcases Int.lt_or_le fk 0 with h2 | h2
            · exact .inl ⟨h1, h2, kf.out.1 ⟨by simpa using h1, h2⟩⟩
            · exact .inr (.inr ⟨h1, h2, kf.out.2 (.inr h2)⟩)
          · exact .inr (.inl ⟨h1, kf.out.2 (.inl (by simpa using h1))⟩)
        have hg3 : (lv < q ∧ decide (lv < q) = true ∧ gk < 0 ∧ fstF (sagP pc ps l q xs) (k + 1) = k) ∨ (q ≤ lv ∧ decide (lv < q) = false ∧ gk < k + 1 ∧ fstF (sagP pc ps l q xs) (k + 1) = gk) ∨ (lv < q ∧ decide (lv < q) = true ∧ 0 ≤ gk ∧ fstF (sagP pc ps l q xs) (k + 1) = gk) := by
          rcases Int.lt_or_le lv q with h1 | h1
          · rcases Int.lt_or_le gk 0 with h2 | h2
            · exact .inl ⟨h1, by simpa using h1, h2, kg.out.1 ⟨by simpa using h1, h2⟩⟩
            · exact .inr (.inr ⟨h1, by simpa using h1, h2, kg.out.2 (.inr h2)⟩)
          · exact .inr (.inl ⟨h1, by simpa using h1, by omega, kg.out.2 (.inl (by simpa using h1))⟩)
        have hg3 := Lib.hid hg3
        clear kf kg
        rcases hf3 with ⟨f0, f1, e1⟩ | ⟨f0, e1⟩ | ⟨f0, f1, e1⟩
        all_goals
          have e1 := Lib.hid e1
          go_wp2_with fail
          rcases hg3.out with ⟨g0, gd, g1, e2⟩ | ⟨g0, gd, g1, e2⟩ | ⟨g0, gd, g1, e2⟩
          all_goals
            have e2 := Lib.hid e2
            go_quiet (fail)
            go_wp2
            go_roundw
            case rel => exact ⟨k + 1, by omega, by go_num, ⟨by rw [ku.out], by rw [kw.out], by rw [ki.out], by rw [e1.out], by rw [e2.out]⟩, hBr.trans ⟨rfl, rfl, rfl, Nat.le_refl _, fun _ _ => rfl⟩⟩
            case measure => simp [intOf]; omega
      · obtain rfl : k = xs.length := by omega
        rw [hU.out, hV.out, hM.out, hF.out, hG.out]
        have hFl := fstF_low (missP pc ps l xs) xs.length
        have hGl := fstF_low (sagP pc ps l q xs) xs.length
        rw [hF.out] at hFl
        rw [hG.out] at hGl
        have eF : (F < 0 ∧ max F 0 = 0 ∧ decide (0 ≤ F) = false) ∨ (0 ≤ F ∧ max F 0 = F ∧ decide (0 ≤ F) = true) := by
          rcases Int.lt_or_le F 0 with h | h
          · exact .inl ⟨h, by omega, by simpa using h⟩
          · exact .inr ⟨h, by omega, by simpa using h⟩
        have eG : (G < 0 ∧ max G 0 = 0 ∧ decide (0 ≤ G) = false) ∨ (0 ≤ G ∧ max G 0 = G ∧ decide (0 ≤ G) = true) := by
          rcases Int.lt_or_le G 0 with h | h
          · exact .inl ⟨h, by omega, by simpa using h⟩
          · exact .inr ⟨h, by omega, by simpa using h⟩
        rcases eF with ⟨f0, f1, f2⟩ | ⟨f0, f1, f2⟩
        all_goals
          rw [f1, f2]
          rcases eG with ⟨g0, g1, g2⟩ | ⟨g0, g1, g2⟩
          all_goals
            rw [g1, g2]
            clear f1 g1
            have f2 := Lib.hid f2
            have g2 := Lib.hid g2
            go_wp2
            go_ret
            refine ⟨?_, hB9.trans (hBr.mono hB9.size)⟩
            show Ending.returned (Value.bool _) = _
            first | rfl | (rw [f2.out, g2.out]; rfl) | (rw [f2.out]; rfl) | (rw [g2.out]; rfl) | (simp; omega)
  · have hf2 : decide (ds.length ≤ 12) = false := by simpa using hf
    go_wp2_with (go_at_call 11; refine (known_any _).mono ?_; rintro e w3 ⟨rfl, hb3⟩)
    go_ret
    exact ⟨rfl, hB2.trans (hb3.mono hB2.size)⟩
end Go.Proofs.Ytbflocamicebhaa
