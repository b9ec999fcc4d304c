/- The contract of Loudness. Conditions: lists of at most 2^62 elements. -/
import Derived.Test.YtbfldhmpgealpaaW11
namespace Go.Proofs.Ytbfldhmpgealpaa
open Go.RowKit

theorem stgS_step {T : Tab} {l : List Int} {k : Nat} (h : k < l.length) (h0 : stgS T l k = 0) : (0 ≤ nth l k ∧ nth l k ≤ max 0 (((nths T.b k).length : Int) - 1)) ∧ stgS T l (k + 1) = 0 := by
  by_cases h1 : 0 ≤ nth l k ∧ nth l k ≤ max 0 (((nths T.b k).length : Int) - 1)
  · exact ⟨h1, by rw [← stgS_next h h1]; exact h0⟩
  · rw [stgS_bad h h1] at h0; cases h0
theorem stgS_all {T : Tab} {l : List Int} (h0 : stgS T l 0 = 0) : ∀ k, k ≤ l.length → stgS T l k = 0
  | 0, _ => h0
  | k + 1, h => (stgS_step (by omega) (stgS_all h0 k (by omega))).2
theorem stOk_of {T : Tab} {l : List Int} (h : stgF T l = 0) : l.length = T.s.length ∧ StOk T (nth l) := by
  unfold stgF at h
  split at h
  · cases h
  · rename_i h1
    have h2 : l.length = T.s.length := by simpa using h1
    refine ⟨h2, fun k hk => ?_⟩
    have := (stgS_step (by omega) (stgS_all h k (by omega))).1
    omega

/-- the loudness, and the error -/
def LoudF (T : Tab) (rs l : List Int) : Int × Int :=
  if tabF T ≠ 0 then (0, tabF T) else if fitF T rs ≠ 0 then (0, fitF T rs) else if stgF T l ≠ 0 then (0, stgF T l) else (loudF T rs (nth l) T.s.length, 0)

set_option maxHeartbeats 4000000 in
theorem Loudness_any (v u x y : Value) (c o : Int) (T : Tab) (rs l : List Int) (w : World) (hv : SlSl w v T.s) (hu : SlSl w u T.b) (hT : T.Fit) (hx : NumSl .u64 w x rs) (hr : rs.length ≤ 4611686018427387904)
    (hy : NumSl .i64 w y l) (hl : l.length ≤ 4611686018427387904) :
    Calls Try.prog 23 #[tabV v u, regV x c o, y] w fun e w' => e = .returned (.tuple #[.int .i64 (LoudF T rs l).1, .int .i64 (LoudF T rs l).2]) ∧ Below w.heap.size w w' := by
  have hB := ((Below.refl w.heap.size w).alloc (Nat.le_refl _) (.cells #[v, u] 35)).alloc (by simp) (.cells #[x, .int .u64 c, .int .u64 o] 39)
  have bP := (BoxC.new w 35 #[v, u]).alloc (.cells #[x, .int .u64 c, .int .u64 o] 39)
  have bR := BoxC.new (w.alloc (.cells #[v, u] 35)) 39 #[x, .int .u64 c, .int .u64 o]
  simp only [World.size_alloc] at bR
  have hv1 := hv.mono hB
  have hu1 := hu.mono hB
  have hx1 := hx.mono hB
  have hy1 := hy.mono hB
  obtain ⟨a, cap, rfl⟩ := hv.len
  obtain ⟨a2, cap2, rfl⟩ := hu.len
  obtain ⟨a3, cap3, rfl⟩ := hx.len
  obtain ⟨a4, cap4, rfl⟩ := hy.len
  clear hv hu hx hy
  obtain ⟨F, hF⟩ : ∃ F, LoudF T rs l = F := ⟨_, rfl⟩
  rw [hF]
  unfold LoudF at hF
  have hck := CheckTable_any _ _ T _ hv1 hu1 hT
  obtain ⟨d, hd⟩ : ∃ d, tabF T = d := ⟨_, rfl⟩
  rw [hd] at hF hck
  replace hck := Lib.hid hck
  by_cases h0 : d = 0
  · subst h0
    have hok := tabOk_of hd
    have hn8 := hok.n
    rw [if_neg (by simp)] at hF
    clear hd
    obtain ⟨d2, hd2⟩ : ∃ d, fitF T rs = d := ⟨_, rfl⟩
    rw [hd2] at hF
    have hft := fun W (h1 : SlSl W (.slice a T.s.length cap) T.s) (h2 : SlSl W (.slice a2 T.b.length cap2) T.b) (h3 : NumSl .u64 W (.slice a3 rs.length cap3) rs) => fits_any _ _ _ c o T rs W h1 h2 hT h3 hr hok.len
    rw [hd2] at hft
    by_cases h3 : d2 = 0
    · subst h3
      rw [if_neg (by simp)] at hF
      have hrs : rs.length = T.s.length := by
        unfold fitF at hd2
        split at hd2
        · cases hd2
        · rename_i h; simpa using h
      replace hd2 := Lib.hid hd2; replace hrs := Lib.hid hrs
      obtain ⟨d3, hd3⟩ : ∃ d, stgF T l = d := ⟨_, rfl⟩
      rw [hd3] at hF
      by_cases h4 : l.length = T.s.length
      · have h4' : ((l.length : Int) != (T.s.length : Int)) = false := by simp [h4]
        have hst := @stOk_of T l
        have hs0 : stgF T l = stgS T l 0 := by unfold stgF; rw [if_neg (by simpa using h4)]
        rw [hd3] at hs0 hst
        have h41 : (l.length : Int) ≤ T.b.length ∧ (T.b.length : Int) ≤ l.length ∧ (l.length : Int) ≤ 8 := by have := hok.eq; omega
        obtain ⟨g1, g2, g3⟩ := h41
        replace h4 := Lib.hid h4; replace hF := Lib.hid hF
        clear hd3
        go_enter Try.func23, Try.ntmps23
        go_wp2_with fail
        refine hck.out.mono ?_
        rintro e w1 ⟨rfl, hb⟩
        have p0 := (bP.grown hb).cell 0 rfl
        have p1 := (bP.grown hb).cell 1 rfl
        have r0 := (bR.grown hb).cell 0 rfl
        have r1 := (bR.grown hb).cell 1 rfl
        have r2 := (bR.grown hb).cell 2 rfl
        have hft1 := hft w1 (hv1.mono hb) (hu1.mono hb) (hx1.mono hb)
        replace hft1 := Lib.hid hft1
        clear hft hck
        go_wp2_with fail
        refine hft1.out.mono ?_
        rintro e w2 ⟨rfl, hb2⟩
        have hbb := hb.trans (hb2.mono hb.size)
        have hB2 := hB.trans (hbb.mono hB.size)
        have bP2 := bP.grown hbb
        have bR2 := bR.grown hbb
        have hv2 := hv1.mono hbb
        have hu2 := hu1.mono hbb
        have hx2 := hx1.mono hbb
        have hy2 := hy1.mono hbb
        clear hft1 p0 p1 r0 r1 r2 hbb hb hb2 bP bR hv1 hu1 hx1 hy1 hB
        have p0 := bP2.cell 0 rfl
        have p1 := bP2.cell 1 rfl
        have r0 := bR2.cell 0 rfl
        have r1 := bR2.cell 1 rfl
        have r2 := bR2.cell 2 rfl
        go_wp2
        go_loop [31] (fun i => ∃ k : Nat, k ≤ l.length ∧ i = .int .i64 k ∧ Hid (d3 = stgS T l k)) (fun i => l.length - (intOf i).toNat)
        case atStart => exact ⟨0, Nat.zero_le _, rfl, hs0⟩
        case round =>
          obtain ⟨k, hk, rfl, hFk⟩ := hrel
          by_cases hlt : k < l.length
          · obtain ⟨b, off, cap', he, hc⟩ := hy2.at hlt
            cases he
            have cx := hc k hlt
            have hlts : k < T.b.length := by omega
            obtain ⟨b2, off2, cap2', he2, hc2⟩ := hu2.at hlts
            cases he2
            obtain ⟨q, cq, hq⟩ := hc2 k hlts
            have hqb := hT.bs k
            obtain ⟨aq, capq, rfl⟩ := hq.len
            have L1 := @stgS_bad T l k hlt
            have L2 := @stgS_next T l k hlt
            have hki : (k : Int) < (T.b.length : Int) := by omega
            clear hc hc2 hq
            generalize (nths T.b k).length = n at cq L1 L2 hqb
            generalize nth l k = z at cx L1 L2
            by_cases n0 : 0 < (n : Int) - 1
            · rw [show max 0 ((n : Int) - 1) = (n : Int) - 1 by omega] at L1 L2
              by_cases hz : 0 ≤ z ∧ z ≤ (n : Int) - 1
              · have e1 := Lib.hid (betw_true hz)
                replace L2 := Lib.hid (L2 hz)
                clear L1 hz
                go_wp2_with (go_at_call 38; refine (within_any _ _ _ _).mono ?_; rintro e w' ⟨rfl, rfl⟩; rw [e1.out])
                go_round
                case rel => exact ⟨k + 1, by omega, by go_num, hFk.out.trans L2.out⟩
                case measure => simp [intOf]; omega
              · have e1 := Lib.hid (betw_false hz)
                replace L1 := Lib.hid (L1 hz)
                clear L2 hz
                go_wp2_with (go_at_call 38; refine (within_any _ _ _ _).mono ?_; rintro e w' ⟨rfl, rfl⟩; rw [e1.out])
                go_ret2
                exact ⟨by rw [← hF.out, hFk.out, L1.out]; rfl, hB2⟩
            · rw [show max 0 ((n : Int) - 1) = 0 by omega] at L1 L2
              by_cases hz : 0 ≤ z ∧ z ≤ 0
              · have e1 := Lib.hid (betw_true hz)
                replace L2 := Lib.hid (L2 hz)
                clear L1 hz
                go_wp2_with (go_at_call 38; refine (within_any _ _ _ _).mono ?_; rintro e w' ⟨rfl, rfl⟩; rw [e1.out])
                go_round
                case rel => exact ⟨k + 1, by omega, by go_num, hFk.out.trans L2.out⟩
                case measure => simp [intOf]; omega
              · have e1 := Lib.hid (betw_false hz)
                replace L1 := Lib.hid (L1 hz)
                clear L2 hz
                go_wp2_with (go_at_call 38; refine (within_any _ _ _ _).mono ?_; rintro e w' ⟨rfl, rfl⟩; rw [e1.out])
                go_ret2
                exact ⟨by rw [← hF.out, hFk.out, L1.out]; rfl, hB2⟩
          · have hen := hFk.out.trans (stgS_end (T := T) (l := l) (k := k) (by omega))
            have hlo := loudness_any _ _ _ _ c o T rs l w2 hv2 hu2 hok hx2 hrs.out hy2 h4.out (hst hen).2
            have hF2 := hF.out
            rw [if_neg (by simpa using hen)] at hF2
            generalize loudF T rs (nth l) T.s.length = LF at hlo hF2
            replace hF2 := Lib.hid hF2; replace hlo := Lib.hid hlo
            clear hen hst hs0
            go_wp2_with fail
            refine hlo.out.mono ?_
            rintro e w3 ⟨rfl, hb3⟩
            go_wp2
            go_ret2
            exact ⟨by rw [← hF2.out]; rfl, hB2.trans (hb3.mono hB2.size)⟩
      · have h4' : ((l.length : Int) != (T.s.length : Int)) = true := by simp; omega
        have hd4 : d3 = 5 := by
          rw [← hd3]; unfold stgF; rw [if_pos h4]
        subst hd4
        rw [if_pos (by simp)] at hF
        subst hF
        clear hd3 h4
        go_enter Try.func23, Try.ntmps23
        go_wp2_with fail
        refine hck.out.mono ?_
        rintro e w1 ⟨rfl, hb⟩
        have p0 := (bP.grown hb).cell 0 rfl
        have p1 := (bP.grown hb).cell 1 rfl
        have r0 := (bR.grown hb).cell 0 rfl
        have r1 := (bR.grown hb).cell 1 rfl
        have r2 := (bR.grown hb).cell 2 rfl
        have hft1 := hft w1 (hv1.mono hb) (hu1.mono hb) (hx1.mono hb)
        replace hft1 := Lib.hid hft1
        clear hft hck
        go_wp2_with fail
        refine hft1.out.mono ?_
        rintro e w2 ⟨rfl, hb2⟩
        have hbb := hb.trans (hb2.mono hb.size)
        clear p0 p1 r0 r1 r2
        have p0 := (bP.grown hbb).cell 0 rfl
        clear hft1
        go_wp2
        go_ret2
        exact ⟨rfl, hB.trans (hbb.mono hB.size)⟩
    · obtain ⟨g1, g2⟩ := neq_of h3
      rw [if_pos h3] at hF
      subst hF
      clear hd2 h3
      go_enter Try.func23, Try.ntmps23
      go_wp2_with fail
      refine hck.out.mono ?_
      rintro e w1 ⟨rfl, hb⟩
      have p0 := (bP.grown hb).cell 0 rfl
      have p1 := (bP.grown hb).cell 1 rfl
      have r0 := (bR.grown hb).cell 0 rfl
      have r1 := (bR.grown hb).cell 1 rfl
      have r2 := (bR.grown hb).cell 2 rfl
      have hft1 := hft w1 (hv1.mono hb) (hu1.mono hb) (hx1.mono hb)
      replace hft1 := Lib.hid hft1
      clear hft hck
      go_wp2_with fail
      refine hft1.out.mono ?_
      rintro e w2 ⟨rfl, hb2⟩
      clear hft1 p0 p1 r0 r1 r2
      go_wp2
      go_ret2
      exact ⟨rfl, hB.trans ((hb.trans (hb2.mono hb.size)).mono hB.size)⟩
  · obtain ⟨g1, g2⟩ := neq_of h0
    rw [if_pos h0] at hF
    subst hF
    clear hd h0
    go_enter Try.func23, Try.ntmps23
    go_wp2_with fail
    refine hck.out.mono ?_
    rintro e w1 ⟨rfl, hb⟩
    clear hck
    go_wp2
    go_ret2
    exact ⟨rfl, hB.trans (hb.mono hB.size)⟩
end Go.Proofs.Ytbfldhmpgealpaa
