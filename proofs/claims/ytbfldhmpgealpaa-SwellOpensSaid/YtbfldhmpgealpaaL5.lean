/- The walk of SwellOpens. Conditions: lists of at most 2^63 elements; bits below 2^64. -/
import Derived.Test.YtbfldhmpgealpaaW17
import Derived.Test.YtbfldhmpgealpaaW18
import Derived.Test.YtbfldhmpgealpaaW19
import Derived.Test.YtbfldhmpgealpaaL3
import Derived.Deep.AppendLies
import Derived.Laws.OwnMore
import Derived.StillTailTactics
namespace Go.Proofs.Ytbfldhmpgealpaa
open Go.RowKit

theorem Try.info37 : (Try.prog.info? 37).map (fun i => (i.zero, i.size, i.bytes)) = some (some (.int .u64 0), 1, 8) := by kernel_rfl
theorem Try.info3 : (Try.prog.info? 3).map (fun i => (i.zero, i.size, i.bytes)) = some (some (.int .i64 0), 1, 8) := by kernel_rfl

/-- an empty row that was just made -/
theorem own_empty (w : World) (e : TypeId) : (w.alloc (.cells #[] e)).ownsRow w.heap.size e 1 (.slice (some ⟨w.heap.size, 0, none⟩) 0 0) 0 [] :=
  ⟨rfl, .inr ⟨w.heap.size, 0, #[], rfl, Nat.le_refl _, World.alloc_heap_new w _, by omega, by unfold maxLen; omega, rfl, rfl⟩⟩
theorem news_of {K : IntKind} {w : World} {b off cap : Nat} {xs : List Int} (h : NumSl K w (.slice (some ⟨b, off, none⟩) xs.length cap) xs) : ∀ (j : Nat) (u : Value), (xs.map (Value.int K))[j]? = some u → w.cell? ((⟨b, off, none⟩ : Addr).add j) = some u := by
  intro j u hu
  rw [WideShapes.add_plain]
  have hj : j < xs.length := by
    rcases Nat.lt_or_ge j xs.length with h1 | h1
    · exact h1
    · simp [h1] at hu
  obtain ⟨b', off', cap', he, hc⟩ := h.at hj
  cases he
  rw [hc j hj]
  simp [hj] at hu
  rw [← hu, nth_lt hj]
theorem numSl_own {K : IntKind} {w : World} {base g cap n : Nat} {e : TypeId} {xs : List Int} (h : w.ownsRow base e 1 (.slice (some ⟨g, 0, none⟩) n cap) n (xs.map (Value.int K))) (hn : n = xs.length) : NumSl K w (.slice (some ⟨g, 0, none⟩) n cap) xs := by
  subst hn
  refine .inr ⟨g, 0, cap, rfl, fun i hi => ?_⟩
  rw [Nat.zero_add, h.cellAt i (by omega)]
  simp [hi, nth_lt hi]
theorem orForm {z : Int} (h : 0 ≤ z ∧ z ≤ 18446744073709551615) {k : Nat} (hk : k < 60) : bits BinOp.or IntKind.u64 z (IntKind.u64.wrap (2 ^ k)) = ((z.toNat ||| 2 ^ k : Nat) : Int) := by
  obtain ⟨n, rfl⟩ := Int.eq_ofNat_of_zero_le h.1
  have h1 : ((2 : Int) ^ k) = ((2 ^ k : Nat) : Int) := by simp
  have h2 := Nat.pow_lt_pow_right (a := 2) (by omega) hk
  have h3 : (2 : Nat) ^ 60 = 1152921504606846976 := by decide
  have h4 : (2 : Nat) ^ k < 18446744073709551616 := by omega
  have h6 := h.2
  have h7 := orBit n k (by omega) (by omega)
  obtain ⟨P, hP⟩ : ∃ P : Nat, 2 ^ k = P := ⟨_, rfl⟩
  rw [hP] at h4 h7
  rw [h1, hP, IntKind.wrap_u64, Int.emod_eq_of_lt (by omega) (by omega), h7, Int.toNat_natCast]
theorem own_map_set {K : IntKind} (xs : List Int) (i : Nat) (z : Int) : (xs.map (Value.int K)).set i (.int K z) = (xs.set i z).map (Value.int K) := by simp [List.map_set]

set_option maxRecDepth 100000 in
set_option maxHeartbeats 4000000 in
theorem law5_any (v u x y : Value) (c o : Int) (T : Tab) (rs l : List Int) (w : World) (hv : SlSl w v T.s) (hu : SlSl w u T.b) (hTs : T.s.length ≤ 9223372036854775807 ∧ ∀ k, (nths T.s k).length ≤ 9223372036854775807)
    (hTb : T.b.length ≤ 9223372036854775807 ∧ ∀ k, (nths T.b k).length ≤ 9223372036854775807) (hx : NumSl .u64 w x rs) (hrs : rs.length ≤ 9223372036854775807) (hy : NumSl .i64 w y l) (hrw : ∀ i, 0 ≤ nth rs i ∧ nth rs i ≤ 18446744073709551615) :
    Calls Try.prog 5 #[tabV v u, regV x c o, y] w fun e w' => e = .returned (.bool true) ∧ Below w.heap.size w w' := by
  have hB := ((Below.refl w.heap.size w).alloc (Nat.le_refl _) (.cells #[v, u] 35)).alloc (by simp) (.cells #[x, .int .u64 c, .int .u64 o] 39)
  have bP := (BoxC.new w 35 #[v, u]).alloc (.cells #[x, .int .u64 c, .int .u64 o] 39)
  have bR := BoxC.new (w.alloc (.cells #[v, u] 35)) 39 #[x, .int .u64 c, .int .u64 o]
  simp only [World.size_alloc] at bR
  have hvw := hv.mono hB
  have huw := hu.mono hB
  have hxw := hx.mono hB
  have hyw := hy.mono hB
  obtain ⟨a, cap, rfl⟩ := hv.len
  obtain ⟨a2, cap2, rfl⟩ := hu.len
  obtain ⟨a3, cap3, rfl⟩ := hx.len
  obtain ⟨a4, cap4, rfl⟩ := hy.len
  clear hv hu hx hy
  have hsm := fun W h1 h2 => small_any (.slice a T.s.length cap) (.slice a2 T.b.length cap2) T W h1 h2 hTs.1 hTb.1 hTs.2 hTb.2
  replace hsm := Lib.hid hsm
  obtain ⟨hTs1, hTs2⟩ := hTs
  obtain ⟨hTb1, hTb2⟩ := hTb
  replace hTs2 := Lib.hid hTs2; replace hTb2 := Lib.hid hTb2
  replace hrw := Lib.hid hrw
  go_enter Try.func5, Try.ntmps5
  go_wp2_with fail
  refine (known_any _).mono ?_
  rintro e w1 ⟨rfl, hb1⟩
  have bP1 := bP.grown hb1
  have bR1 := bR.grown hb1
  have hB1 := hB.trans (hb1.mono hB.size)
  have hv1 := hvw.mono hb1
  have hu1 := huw.mono hb1
  have hx1 := hxw.mono hb1
  have hy1 := hyw.mono hb1
  clear bP bR hB hvw huw hxw hyw hb1
  have c0 := bP1.cell 0 rfl
  have c1 := bP1.cell 1 rfl
  have r0 := bR1.cell 0 rfl
  have r1 := bR1.cell 1 rfl
  have r2 := bR1.cell 2 rfl
  go_wp2_with fail
  refine (hsm.out _ hv1 hu1).mono ?_
  rintro e w2 ⟨sm, hsm2, rfl, hb2⟩
  have bP2 := bP1.grown hb2
  have bR2 := bR1.grown hb2
  have hB2 := hB1.trans (hb2.mono hB1.size)
  have hv2 := hv1.mono hb2
  have hu2 := hu1.mono hb2
  have hx2 := hx1.mono hb2
  have hy2 := hy1.mono hb2
  clear bP1 bR1 hB1 hv1 hu1 hx1 hy1 hb2 c0 c1 r0 r1 r2
  have c0 := bP2.cell 0 rfl
  have c1 := bP2.cell 1 rfl
  have r0 := bR2.cell 0 rfl
  have r1 := bR2.cell 1 rfl
  have r2 := bR2.cell 2 rfl
  cases sm
  · go_wp2_with fail
    refine (known_any _).mono ?_
    rintro e w3 ⟨rfl, hb3⟩
    have bP3 := bP2.grown hb3
    have bR3 := bR2.grown hb3
    have hB3 := hB2.trans (hb3.mono hB2.size)
    have hv3 := hv2.mono hb3
    have hu3 := hu2.mono hb3
    have hx3 := hx2.mono hb3
    have hy3 := hy2.mono hb3
    clear bP2 bR2 hB2 hv2 hu2 hx2 hy2 hb3 c0 c1 r0 r1 r2
    have c0 := bP3.cell 0 rfl
    have c1 := bP3.cell 1 rfl
    have r0 := bR3.cell 0 rfl
    have r1 := bR3.cell 1 rfl
    have r2 := bR3.cell 2 rfl
    go_wp2
    go_ret
    exact ⟨rfl, hB3⟩
  · have hS : Small T := hsm2.1 rfl
    have hT := hS.fit
    clear hsm2 hsm
    by_cases hz : T.s.length = 0
    · have hz2 : ((T.s.length : Int) == 0) = true := by simp [hz]
      replace hz := Lib.hid hz
      go_wp2_with fail
      refine (known_any _).mono ?_
      rintro e w3 ⟨rfl, hb3⟩
      have bP3 := bP2.grown hb3
      have bR3 := bR2.grown hb3
      have hB3 := hB2.trans (hb3.mono hB2.size)
      have hv3 := hv2.mono hb3
      have hu3 := hu2.mono hb3
      have hx3 := hx2.mono hb3
      have hy3 := hy2.mono hb3
      clear bP2 bR2 hB2 hv2 hu2 hx2 hy2 hb3 c0 c1 r0 r1 r2
      have c0 := bP3.cell 0 rfl
      have c1 := bP3.cell 1 rfl
      have r0 := bR3.cell 0 rfl
      have r1 := bR3.cell 1 rfl
      have r2 := bR3.cell 2 rfl
      go_wp2
      go_ret
      exact ⟨rfl, hB3⟩
    · have hz2 : ((T.s.length : Int) == 0) = false := by simpa using hz
      have hK1 := fun W h1 h2 => table_any (.slice a T.s.length cap) (.slice a2 T.b.length cap2) T W h1 h2 hT
      obtain ⟨d, hd⟩ : ∃ d, tabF T = d := ⟨_, rfl⟩
      rw [hd] at hK1
      replace hK1 := Lib.hid hK1
      by_cases h0 : d = 0
      · subst h0
        have hok := tabOk_of hd
        obtain ⟨d2, hd2⟩ : ∃ d, fitF T rs = d := ⟨_, rfl⟩
        have hD := fun W h1 h2 h3 => drawn_any' (.slice a T.s.length cap) (.slice a2 T.b.length cap2) (.slice a3 rs.length cap3) c o T rs W h1 h2 hT h3 hok.len
        rw [hd2] at hD
        replace hD := Lib.hid hD
        by_cases h2 : d2 = 0
        · subst h2
          obtain ⟨d3, hd3⟩ : ∃ d, stgF T l = d := ⟨_, rfl⟩
          have hG := fun W h1 h2 h3 => lawStages_any' (.slice a T.s.length cap) (.slice a2 T.b.length cap2) (.slice a4 l.length cap4) T l W h1 h2 hT h3 hok.eq
          rw [hd3] at hG
          replace hG := Lib.hid hG
          by_cases h3 : d3 = 0
          · subst h3
            have hrl : rs.length = T.s.length := (fit_iff.1 hd2).1
            have hll : l.length = T.s.length := (stg_iff.1 hd3).1
            have hn8 := hok.n
            have hL := fun W h1 h2 h3 h4 => Loudness_any (.slice a T.s.length cap) (.slice a2 T.b.length cap2) (.slice a3 rs.length cap3) (.slice a4 l.length cap4) c o T rs l W h1 h2 hT h3 (by omega) h4 (by omega)
            have hLF : LoudF T rs l = (loudF T rs (nth l) T.s.length, 0) := by
              unfold LoudF
              rw [hd, hd2, hd3, if_neg (by simp), if_neg (by simp), if_neg (by simp)]
            rw [hLF] at hL
            have hMo : ∀ i k, i < T.s.length → k < (nths T.s i).length → ∃ X, loudF T rs (nth l) T.s.length ≤ X ∧ ∀ (W : World) (v' : Value), SlSl W (.slice a T.s.length cap) T.s → SlSl W (.slice a2 T.b.length cap2) T.b → NumSl .u64 W v' (moreR rs i k) → NumSl .i64 W (.slice a4 l.length cap4) l →
                Calls Try.prog 23 #[tabV (.slice a T.s.length cap) (.slice a2 T.b.length cap2), regV v' 0 0, .slice a4 l.length cap4] W (TwoBelow X 0 W) := by
              intro i k hi hk
              obtain ⟨X, h1, h2⟩ := more_ok hd hd2 hd3 hrw.out hi hk
              refine ⟨X, h2, fun W v' g1 g2 g3 g4 => ?_⟩
              have := Loudness_any _ _ v' _ 0 0 T (moreR rs i k) l W g1 g2 hT g3 (by rw [moreR_len]; omega) g4 (by omega)
              rw [h1] at this
              exact this
            have hWi : ∀ i, i < T.s.length → ∃ X, loudF T rs (nth l) T.s.length ≤ X ∧ ∀ (W : World) (v' : Value), SlSl W (.slice a T.s.length cap) T.s → SlSl W (.slice a2 T.b.length cap2) T.b → NumSl .u64 W (.slice a3 rs.length cap3) rs → NumSl .i64 W v' (wideL T l i) →
                Calls Try.prog 23 #[tabV (.slice a T.s.length cap) (.slice a2 T.b.length cap2), regV (.slice a3 rs.length cap3) c o, v'] W (TwoBelow X 0 W) := by
              intro i hi
              obtain ⟨X, h1, h2⟩ := wide_ok hd hd2 hd3 hi
              refine ⟨X, h2, fun W v' g1 g2 g3 g4 => ?_⟩
              have := Loudness_any _ _ _ v' c o T rs (wideL T l i) W g1 g2 hT g3 (by omega) g4 (by rw [wideL_len]; omega)
              rw [h1] at this
              exact this
            have hlg := (stg_iff.1 hd3).2
            generalize loudF T rs (nth l) T.s.length = X0 at hL hMo hWi
            replace hL := Lib.hid hL; replace hMo := Lib.hid hMo; replace hWi := Lib.hid hWi; replace hlg := Lib.hid hlg
            have hr1 : (rs.length : Int) ≤ T.s.length ∧ (T.s.length : Int) ≤ rs.length := by omega
            have hl1 : (l.length : Int) ≤ T.s.length ∧ (T.s.length : Int) ≤ l.length := by omega
            have hb1 : (T.b.length : Int) ≤ T.s.length ∧ (T.s.length : Int) ≤ T.b.length := by have := hok.eq; omega
            obtain ⟨hr1, hr2⟩ := hr1
            obtain ⟨hl1, hl2⟩ := hl1
            obtain ⟨hb1, hb2⟩ := hb1
            replace hrl := Lib.hid hrl; replace hll := Lib.hid hll
            obtain ⟨i0, hi0, hz0, hz1, hz3⟩ := info_parts Try.info37
            obtain ⟨i3, hi3, hy0, hy1, hy3⟩ := info_parts Try.info3
            clear hLF hd hd2 hd3 hz
            go_wp2_with fail
            refine (hK1.out _ hv2 hu2).mono ?_
            rintro e w3 ⟨rfl, hb3⟩
            have bP3 := bP2.grown hb3
            have bR3 := bR2.grown hb3
            have hB3 := hB2.trans (hb3.mono hB2.size)
            have hv3 := hv2.mono hb3
            have hu3 := hu2.mono hb3
            have hx3 := hx2.mono hb3
            have hy3 := hy2.mono hb3
            clear bP2 bR2 hB2 hv2 hu2 hx2 hy2 hb3 c0 c1 r0 r1 r2
            have c0 := bP3.cell 0 rfl
            have c1 := bP3.cell 1 rfl
            have r0 := bR3.cell 0 rfl
            have r1 := bR3.cell 1 rfl
            have r2 := bR3.cell 2 rfl
            go_wp2_with fail
            refine (hD.out _ hv3 hu3 hx3).mono ?_
            rintro e w4 ⟨rfl, hb4⟩
            have bP4 := bP3.grown hb4
            have bR4 := bR3.grown hb4
            have hB4 := hB3.trans (hb4.mono hB3.size)
            have hv4 := hv3.mono hb4
            have hu4 := hu3.mono hb4
            have hx4 := hx3.mono hb4
            have hy4 := hy3.mono hb4
            clear bP3 bR3 hB3 hv3 hu3 hx3 hy3 hb4 c0 c1 r0 r1 r2
            have c0 := bP4.cell 0 rfl
            have c1 := bP4.cell 1 rfl
            have r0 := bR4.cell 0 rfl
            have r1 := bR4.cell 1 rfl
            have r2 := bR4.cell 2 rfl
            go_wp2_with fail
            refine (hG.out _ hv4 hu4 hy4).mono ?_
            rintro e w5 ⟨rfl, hb5⟩
            have bP5 := bP4.grown hb5
            have bR5 := bR4.grown hb5
            have hB5 := hB4.trans (hb5.mono hB4.size)
            have hv5 := hv4.mono hb5
            have hu5 := hu4.mono hb5
            have hx5 := hx4.mono hb5
            have hy5 := hy4.mono hb5
            clear bP4 bR4 hB4 hv4 hu4 hx4 hy4 hb5 c0 c1 r0 r1 r2
            have c0 := bP5.cell 0 rfl
            have c1 := bP5.cell 1 rfl
            have r0 := bR5.cell 0 rfl
            have r1 := bR5.cell 1 rfl
            have r2 := bR5.cell 2 rfl
            go_wp2_with fail
            refine (hL.out _ hv5 hu5 hx5 hy5).mono ?_
            rintro e w6 ⟨rfl, hb6⟩
            have bP6 := bP5.grown hb6
            have bR6 := bR5.grown hb6
            have hB6 := hB5.trans (hb6.mono hB5.size)
            have hv6 := hv5.mono hb6
            have hu6 := hu5.mono hb6
            have hx6 := hx5.mono hb6
            have hy6 := hy5.mono hb6
            clear bP5 bR5 hB5 hv5 hu5 hx5 hy5 hb6 c0 c1 r0 r1 r2
            have c0 := bP6.cell 0 rfl
            have c1 := bP6.cell 1 rfl
            have r0 := bR6.cell 0 rfl
            have r1 := bR6.cell 1 rfl
            have r2 := bR6.cell 2 rfl
            go_wp2
            go_loopw [9] (fun i wr => ∃ k : Nat, k ≤ T.s.length ∧ i = .int .i64 k ∧ Below w6.heap.size w6 wr) (fun i _ => T.s.length - (intOf i).toNat)
            case atStart => exact ⟨0, Nat.zero_le _, rfl, Below.refl _ _⟩
            case round =>
              obtain ⟨i, hi, rfl, hBr⟩ := hrel
              obtain ⟨wo, rfl⟩ : ∃ wo : World, wo = wr := ⟨_, rfl⟩
              have bPo := bP6.grown hBr
              have bRo := bR6.grown hBr
              have hBo := hB6.trans (hBr.mono hB6.size)
              have hvo := hv6.mono hBr
              have huo := hu6.mono hBr
              have hxo := hx6.mono hBr
              have hyo := hy6.mono hBr
              clear c0 c1 r0 r1 r2
              have c0 := bPo.cell 0 rfl
              by_cases hlt : i < T.s.length
              · have hii : (i : Int) < (T.s.length : Int) := by omega
                have hir : (i : Int) < (rs.length : Int) := by omega
                obtain ⟨b, off, cap', he, hc⟩ := hvo.at hlt
                cases he
                obtain ⟨xv, cxv, hxv⟩ := hc i hlt
                obtain ⟨ax, capx, rfl⟩ := hxv.len
                have hlen := hok.len i hlt
                obtain ⟨b2, off2, cap2', he2, _⟩ := hxo.at (k := i) (by omega)
                cases he2
                clear hc
                go_wp2
                go_loopw [10] (fun j wq => ∃ k : Nat, k ≤ (nths T.s i).length ∧ j = .int .i64 k ∧ Below wo.heap.size wo wq) (fun j _ => (nths T.s i).length - (intOf j).toNat)
                case atStart => exact ⟨0, Nat.zero_le _, rfl, Below.refl _ _⟩
                case round =>
                  obtain ⟨k, hk, rfl, hBq⟩ := hrel
                  obtain ⟨wq, rfl⟩ : ∃ wq : World, wq = wr := ⟨_, rfl⟩
                  have bPq := bPo.grown hBq
                  have bRq := bRo.grown hBq
                  have q0 := bPq.cell 0 rfl
                  have s0 := bRq.cell 0 rfl
                  have cxq := (hBq.cell (p := ⟨b, off + i, none⟩) (lt_of_cell cxv)).trans cxv
                  have hxq := hxo.mono hBq
                  by_cases hlk : k < (nths T.s i).length
                  · have hkk : (k : Int) < ((nths T.s i).length : Int) := by omega
                    have hA := (Below.refl wq.heap.size wq).alloc (Nat.le_refl _) (.cells #[] 37)
                    have s0A := (bRq.grown hA).cell 0 rfl
                    have hxA := hxq.mono hA
                    have hnews := news_of hxA
                    have hrs0 : 0 < rs.length := by omega
                    have hrs8 : rs.length ≤ 8 := by omega
                    go_wp2_with (at_builtin; refine wpList_append_lies _ rfl _ _ 36 rfl wq.heap.size 37 i0 _ 1 8 Try.underlying36 hi0 hz0 hz1 hz3 rfl (by omega) _ 0 [] rfl (own_empty _ _) ⟨b2, off2, none⟩ rs.length cap3 (rs.map (Value.int .u64)) rfl (by simp) hnews (ints_oneCell _ _) hrs0 (by unfold maxLen; omega) (by omega) (by simp) (wq.heap.size + 1) (by simp) ?_; intro g cp w1 hown1 hgrow hat hlt1; simp only [Nat.zero_add, List.nil_append] at hown1)
                    have hbq := hA.grown hgrow (by simp) (fun k e => by cases e; exact Nat.le_refl _)
                    have hAm := (Below.refl w1.heap.size w1).alloc (Nat.le_refl _) (.cells #[.slice (some ⟨g, 0, none⟩) rs.length cp, .int .u64 0, .int .u64 0] 39)
                    have bM := BoxC.new w1 39 #[.slice (some ⟨g, 0, none⟩) rs.length cp, .int .u64 0, .int .u64 0]
                    have hown2 := hown1.alloc (.cells #[.slice (some ⟨g, 0, none⟩) rs.length cp, .int .u64 0, .int .u64 0] 39)
                    have hg1 : wq.heap.size ≤ g := ownsRow_low hown1 g rfl
                    have hbq2 := hbq.trans (hAm.mono hbq.size)
                    generalize hW2 : w1.alloc (.cells #[.slice (some ⟨g, 0, none⟩) rs.length cp, .int .u64 0, .int .u64 0] 39) = w2' at bM hown2 hAm hbq2 ⊢
                    have m0 := bM.cell 0 rfl
                    have cgi := hown2.cellAt i (by omega)
                    have fgi := hown2.frozenAt i
                    have hir2 : i < rs.length := by omega
                    rw [show (rs.map (Value.int .u64))[i]? = some (.int .u64 (nth rs i)) by simp [hir2, nth_lt hir2]] at cgi
                    clear hA s0A hxA hnews q0 s0 cxq hxq hgrow hat
                    have hzi := hrw.out i
                    have hor := orForm hzi (k := k) (by omega)
                    have hmr : moreR rs i k = rs.set i (((nth rs i).toNat ||| 2 ^ k : Nat) : Int) := rfl
                    generalize nth rs i = z at cgi hor hmr
                    generalize (((z.toNat ||| 2 ^ k : Nat) : Int)) = zz at hor hmr
                    replace hmr := Lib.hid hmr; replace hor := Lib.hid hor
                    obtain ⟨X, hX0, hcl⟩ := hMo.out i k hlt hlk
                    replace hcl := Lib.hid hcl
                    clear hzi
                    go_still_tail 8, (by kernel_rfl)
                    rw [hor.out]
                    have hbd : Below wq.heap.size wq w2'.drew := hbq2.drew
                    have hown3 := hown2.drew
                    have bMd := bM.drew
                    change wpList _ _ _ _ _ w2'.drew
                    generalize w2'.drew = w3' at hbd hown3 bMd ⊢
                    clear m0 cgi fgi hW2 hAm hbq2 hown2 bM hown1 hbq
                    have cgi := hown3.cellAt i (by omega)
                    have fgi := hown3.frozenAt i
                    rw [show (rs.map (Value.int .u64))[i]? = some (.int .u64 (nth rs i)) by simp [hir2, nth_lt hir2]] at cgi
                    have hst := (hown3.stored i (.int .u64 zz)).1
                    rw [own_map_set, ← hmr.out] at hst
                    have bM4 := bMd.other (p := ⟨g, i, none⟩) (by simp; omega) (.int .u64 zz)
                    have hbs := hbd.setCell (p := ⟨g, i, none⟩) hg1 (.int .u64 zz)
                    have hnm := numSl_own hst (by rw [moreR_len])
                    clear hown3 bMd hst
                    have hbo := hBq.trans (hbs.mono hBq.size)
                    have bP4 := bPo.grown hbo
                    have d0 := bP4.cell 0 rfl
                    have d1 := bP4.cell 1 rfl
                    have d2 := bM4.cell 0 rfl
                    have d3 := bM4.cell 1 rfl
                    have d4 := bM4.cell 2 rfl
                    go_wp2_with fail
                    refine (hcl.out _ _ (hvo.mono hbo) (huo.mono hbo) hnm (hyo.mono hbo)).mono ?_
                    rintro e w5' ⟨rfl, hb5⟩
                    clear d0 d1 d2 d3 d4 bM4 hnm cgi fgi
                    go_wp2
                    go_roundw
                    case rel => exact ⟨k + 1, by omega, by go_num, hbo.trans (hb5.mono hbo.size)⟩
                    case measure => simp [intOf]; omega
                  · obtain rfl : k = (nths T.s i).length := by omega
                    have hA := (Below.refl wq.heap.size wq).alloc (Nat.le_refl _) (.cells #[] 3)
                    have hyq := hyo.mono hBq
                    obtain ⟨b5, off5, cap5', he5, _⟩ := hyq.at (k := i) (by omega)
                    cases he5
                    have hyA := hyq.mono hA
                    have hnews := news_of hyA
                    have hl0 : 0 < l.length := by omega
                    have hl8 : l.length ≤ 8 := by omega
                    have hil : (i : Int) < (l.length : Int) := by omega
                    have hib : (i : Int) < (T.b.length : Int) := by omega
                    obtain ⟨b4, off4, cap4', he4, hc4⟩ := (huo.mono hBq).at (k := i) (by omega)
                    cases he4
                    obtain ⟨yv, cyv, hyv⟩ := hc4 i (by omega)
                    obtain ⟨ay, capy, rfl⟩ := hyv.len
                    have q1 := bPq.cell 1 rfl
                    clear hc4
                    go_wp2_with (at_builtin; refine wpList_append_lies _ rfl _ _ 40 rfl wq.heap.size 3 i3 _ 1 8 Try.underlying40 hi3 hy0 hy1 hy3 rfl (by omega) _ 0 [] rfl (own_empty _ _) ⟨b5, off5, none⟩ l.length cap4 (l.map (Value.int .i64)) rfl (by simp) hnews (ints_oneCell _ _) hl0 (by unfold maxLen; omega) (by omega) (by simp) (wq.heap.size + 1) (by simp) ?_; intro g cp w1 hown1 hgrow hat hlt1; simp only [Nat.zero_add, List.nil_append] at hown1)
                    have hbq := hA.grown hgrow (by simp) (fun k e => by cases e; exact Nat.le_refl _)
                    have hg1 : wq.heap.size ≤ g := ownsRow_low hown1 g rfl
                    have q1' := (bPq.grown hbq).cell 1 rfl
                    have cyv' := (hbq.cell (p := ⟨b4, off4 + i, none⟩) (lt_of_cell cyv)).trans cyv
                    have cgi := hown1.cellAt i (by omega)
                    have fgi := hown1.frozenAt i
                    have hil2 : i < l.length := by omega
                    rw [show (l.map (Value.int .i64))[i]? = some (.int .i64 (nth l i)) by simp [hil2, nth_lt hil2]] at cgi
                    have hlgi := hlg.out i hil2
                    have hwl : wideL T l i = l.set i (min (nth l i + 1) (max 0 (((nths T.b i).length : Int) - 1))) := rfl
                    have hb64 : (nths T.b i).length ≤ 64 := by
                      rcases hok.box i hlt with h | h
                      · omega
                      · exact h.n1
                    clear hA hyA hnews q0 s0 cxq hxq hgrow hat q1 cyv
                    generalize (nths T.b i).length = m at cyv' hlgi hwl hb64
                    generalize hzl : nth l i = z at cgi hlgi hwl
                    obtain ⟨zz, hzz⟩ : ∃ zz, min (z + 1) (max 0 ((m : Int) - 1)) = zz := ⟨_, rfl⟩
                    rw [hzz] at hwl
                    replace hwl := Lib.hid hwl; replace hzl := Lib.hid hzl
                    obtain ⟨X, hX0, hcl⟩ := hWi.out i hlt
                    replace hcl := Lib.hid hcl
                    have e1 : IntKind.i64.wrap (z + 1) = z + 1 := IntWalk.i64_in _ (by omega)
                    have e2 : IntKind.i64.wrap ((m : Int) - 1) = (m : Int) - 1 := IntWalk.i64_in _ (by omega)
                    have hcs : (0 < (m : Int) - 1 ∧ (m : Int) - 1 < z + 1 ∧ zz = (m : Int) - 1) ∨ (0 < (m : Int) - 1 ∧ ¬ (m : Int) - 1 < z + 1 ∧ zz = z + 1) ∨ (¬ 0 < (m : Int) - 1 ∧ 0 < z + 1 ∧ zz = 0) := by omega
                    clear hzz hlgi
                    rcases hcs with ⟨s1, s2, rfl⟩ | ⟨s1, s2, rfl⟩ | ⟨s1, s2, rfl⟩
                    · go_wp2_with fail
                      go_still_tail 17, (by kernel_rfl)
                      have hbd : Below wq.heap.size wq w1.drew := hbq.drew
                      have hown3 := hown1.drew
                      change wpList _ _ _ _ _ w1.drew
                      generalize w1.drew = w3' at hbd hown3 ⊢
                      clear cgi fgi hbq hown1 e1 e2 q1' cyv'
                      have cgi := hown3.cellAt i (by omega)
                      have fgi := hown3.frozenAt i
                      rw [show (l.map (Value.int .i64))[i]? = some (.int .i64 (nth l i)) by simp [hil2, nth_lt hil2], hzl.out] at cgi
                      have hst := (hown3.stored i (.int .i64 ((m : Int) - 1))).1
                      rw [own_map_set, ← hwl.out] at hst
                      have hbs := hbd.setCell (p := ⟨g, i, none⟩) hg1 (.int .i64 ((m : Int) - 1))
                      have hnm := numSl_own hst (by rw [wideL_len])
                      clear hown3 hst
                      have hbo := hBq.trans (hbs.mono hBq.size)
                      have bP4 := bPo.grown hbo
                      have bR4 := bRo.grown hbo
                      have d0 := bP4.cell 0 rfl
                      have d1 := bP4.cell 1 rfl
                      have d2 := bR4.cell 0 rfl
                      have d3 := bR4.cell 1 rfl
                      have d4 := bR4.cell 2 rfl
                      go_wp2_with fail
                      refine (hcl.out _ _ (hvo.mono hbo) (huo.mono hbo) (hxo.mono hbo) hnm).mono ?_
                      rintro e w5' ⟨rfl, hb5⟩
                      clear d0 d1 d2 d3 d4 hnm cgi fgi
                      go_wp2
                      go_roundw
                      case rel => exact ⟨i + 1, by omega, by go_num, hBr.trans ((hbo.trans (hb5.mono hbo.size)).mono hBr.size)⟩
                      case measure => simp [intOf]; omega
                    · go_wp2_with fail
                      go_still_tail 17, (by kernel_rfl)
                      have hbd : Below wq.heap.size wq w1.drew := hbq.drew
                      have hown3 := hown1.drew
                      change wpList _ _ _ _ _ w1.drew
                      generalize w1.drew = w3' at hbd hown3 ⊢
                      clear cgi fgi hbq hown1 e1 e2 q1' cyv'
                      have cgi := hown3.cellAt i (by omega)
                      have fgi := hown3.frozenAt i
                      rw [show (l.map (Value.int .i64))[i]? = some (.int .i64 (nth l i)) by simp [hil2, nth_lt hil2], hzl.out] at cgi
                      have hst := (hown3.stored i (.int .i64 (z + 1))).1
                      rw [own_map_set, ← hwl.out] at hst
                      have hbs := hbd.setCell (p := ⟨g, i, none⟩) hg1 (.int .i64 (z + 1))
                      have hnm := numSl_own hst (by rw [wideL_len])
                      clear hown3 hst
                      have hbo := hBq.trans (hbs.mono hBq.size)
                      have bP4 := bPo.grown hbo
                      have bR4 := bRo.grown hbo
                      have d0 := bP4.cell 0 rfl
                      have d1 := bP4.cell 1 rfl
                      have d2 := bR4.cell 0 rfl
                      have d3 := bR4.cell 1 rfl
                      have d4 := bR4.cell 2 rfl
                      go_wp2_with fail
                      refine (hcl.out _ _ (hvo.mono hbo) (huo.mono hbo) (hxo.mono hbo) hnm).mono ?_
                      rintro e w5' ⟨rfl, hb5⟩
                      clear d0 d1 d2 d3 d4 hnm cgi fgi
                      go_wp2
                      go_roundw
                      case rel => exact ⟨i + 1, by omega, by go_num, hBr.trans ((hbo.trans (hb5.mono hbo.size)).mono hBr.size)⟩
                      case measure => simp [intOf]; omega
                    · go_wp2_with fail
                      go_still_tail 17, (by kernel_rfl)
                      have hbd : Below wq.heap.size wq w1.drew := hbq.drew
                      have hown3 := hown1.drew
                      change wpList _ _ _ _ _ w1.drew
                      generalize w1.drew = w3' at hbd hown3 ⊢
                      clear cgi fgi hbq hown1 e1 e2 q1' cyv'
                      have cgi := hown3.cellAt i (by omega)
                      have fgi := hown3.frozenAt i
                      rw [show (l.map (Value.int .i64))[i]? = some (.int .i64 (nth l i)) by simp [hil2, nth_lt hil2], hzl.out] at cgi
                      have hst := (hown3.stored i (.int .i64 0)).1
                      rw [own_map_set, ← hwl.out] at hst
                      have hbs := hbd.setCell (p := ⟨g, i, none⟩) hg1 (.int .i64 0)
                      have hnm := numSl_own hst (by rw [wideL_len])
                      clear hown3 hst
                      have hbo := hBq.trans (hbs.mono hBq.size)
                      have bP4 := bPo.grown hbo
                      have bR4 := bRo.grown hbo
                      have d0 := bP4.cell 0 rfl
                      have d1 := bP4.cell 1 rfl
                      have d2 := bR4.cell 0 rfl
                      have d3 := bR4.cell 1 rfl
                      have d4 := bR4.cell 2 rfl
                      go_wp2_with fail
                      refine (hcl.out _ _ (hvo.mono hbo) (huo.mono hbo) (hxo.mono hbo) hnm).mono ?_
                      rintro e w5' ⟨rfl, hb5⟩
                      clear d0 d1 d2 d3 d4 hnm cgi fgi
                      go_wp2
                      go_roundw
                      case rel => exact ⟨i + 1, by omega, by go_num, hBr.trans ((hbo.trans (hb5.mono hbo.size)).mono hBr.size)⟩
                      case measure => simp [intOf]; omega
              · obtain rfl : i = T.s.length := by omega
                go_wp2
                go_ret
                exact ⟨rfl, hBo⟩
          · obtain ⟨g1, g2⟩ := neq_of h3
            clear hd hd2 hd3 h3
            go_wp2_with fail
            refine (hK1.out _ hv2 hu2).mono ?_
            rintro e w3 ⟨rfl, hb3⟩
            have bP3 := bP2.grown hb3
            have bR3 := bR2.grown hb3
            have hB3 := hB2.trans (hb3.mono hB2.size)
            have hv3 := hv2.mono hb3
            have hu3 := hu2.mono hb3
            have hx3 := hx2.mono hb3
            have hy3 := hy2.mono hb3
            clear bP2 bR2 hB2 hv2 hu2 hx2 hy2 hb3 c0 c1 r0 r1 r2
            have c0 := bP3.cell 0 rfl
            have c1 := bP3.cell 1 rfl
            have r0 := bR3.cell 0 rfl
            have r1 := bR3.cell 1 rfl
            have r2 := bR3.cell 2 rfl
            go_wp2_with fail
            refine (hD.out _ hv3 hu3 hx3).mono ?_
            rintro e w4 ⟨rfl, hb4⟩
            have bP4 := bP3.grown hb4
            have bR4 := bR3.grown hb4
            have hB4 := hB3.trans (hb4.mono hB3.size)
            have hv4 := hv3.mono hb4
            have hu4 := hu3.mono hb4
            have hx4 := hx3.mono hb4
            have hy4 := hy3.mono hb4
            clear bP3 bR3 hB3 hv3 hu3 hx3 hy3 hb4 c0 c1 r0 r1 r2
            have c0 := bP4.cell 0 rfl
            have c1 := bP4.cell 1 rfl
            have r0 := bR4.cell 0 rfl
            have r1 := bR4.cell 1 rfl
            have r2 := bR4.cell 2 rfl
            go_wp2_with fail
            refine (hG.out _ hv4 hu4 hy4).mono ?_
            rintro e w5 ⟨rfl, hb5⟩
            have bP5 := bP4.grown hb5
            have bR5 := bR4.grown hb5
            have hB5 := hB4.trans (hb5.mono hB4.size)
            have hv5 := hv4.mono hb5
            have hu5 := hu4.mono hb5
            have hx5 := hx4.mono hb5
            have hy5 := hy4.mono hb5
            clear bP4 bR4 hB4 hv4 hu4 hx4 hy4 hb5 c0 c1 r0 r1 r2
            have c0 := bP5.cell 0 rfl
            have c1 := bP5.cell 1 rfl
            have r0 := bR5.cell 0 rfl
            have r1 := bR5.cell 1 rfl
            have r2 := bR5.cell 2 rfl
            go_wp2_with fail
            refine (known_any _).mono ?_
            rintro e w6 ⟨rfl, hb6⟩
            have bP6 := bP5.grown hb6
            have bR6 := bR5.grown hb6
            have hB6 := hB5.trans (hb6.mono hB5.size)
            have hv6 := hv5.mono hb6
            have hu6 := hu5.mono hb6
            have hx6 := hx5.mono hb6
            have hy6 := hy5.mono hb6
            clear bP5 bR5 hB5 hv5 hu5 hx5 hy5 hb6 c0 c1 r0 r1 r2
            have c0 := bP6.cell 0 rfl
            have c1 := bP6.cell 1 rfl
            have r0 := bR6.cell 0 rfl
            have r1 := bR6.cell 1 rfl
            have r2 := bR6.cell 2 rfl
            go_wp2
            go_ret
            exact ⟨rfl, hB6⟩
        · obtain ⟨g1, g2⟩ := neq_of h2
          clear hd hd2 h2
          go_wp2_with fail
          refine (hK1.out _ hv2 hu2).mono ?_
          rintro e w3 ⟨rfl, hb3⟩
          have bP3 := bP2.grown hb3
          have bR3 := bR2.grown hb3
          have hB3 := hB2.trans (hb3.mono hB2.size)
          have hv3 := hv2.mono hb3
          have hu3 := hu2.mono hb3
          have hx3 := hx2.mono hb3
          have hy3 := hy2.mono hb3
          clear bP2 bR2 hB2 hv2 hu2 hx2 hy2 hb3 c0 c1 r0 r1 r2
          have c0 := bP3.cell 0 rfl
          have c1 := bP3.cell 1 rfl
          have r0 := bR3.cell 0 rfl
          have r1 := bR3.cell 1 rfl
          have r2 := bR3.cell 2 rfl
          go_wp2_with fail
          refine (hD.out _ hv3 hu3 hx3).mono ?_
          rintro e w4 ⟨rfl, hb4⟩
          have bP4 := bP3.grown hb4
          have bR4 := bR3.grown hb4
          have hB4 := hB3.trans (hb4.mono hB3.size)
          have hv4 := hv3.mono hb4
          have hu4 := hu3.mono hb4
          have hx4 := hx3.mono hb4
          have hy4 := hy3.mono hb4
          clear bP3 bR3 hB3 hv3 hu3 hx3 hy3 hb4 c0 c1 r0 r1 r2
          have c0 := bP4.cell 0 rfl
          have c1 := bP4.cell 1 rfl
          have r0 := bR4.cell 0 rfl
          have r1 := bR4.cell 1 rfl
          have r2 := bR4.cell 2 rfl
          go_wp2_with fail
          refine (known_any _).mono ?_
          rintro e w5 ⟨rfl, hb5⟩
          have bP5 := bP4.grown hb5
          have bR5 := bR4.grown hb5
          have hB5 := hB4.trans (hb5.mono hB4.size)
          have hv5 := hv4.mono hb5
          have hu5 := hu4.mono hb5
          have hx5 := hx4.mono hb5
          have hy5 := hy4.mono hb5
          clear bP4 bR4 hB4 hv4 hu4 hx4 hy4 hb5 c0 c1 r0 r1 r2
          have c0 := bP5.cell 0 rfl
          have c1 := bP5.cell 1 rfl
          have r0 := bR5.cell 0 rfl
          have r1 := bR5.cell 1 rfl
          have r2 := bR5.cell 2 rfl
          go_wp2
          go_ret
          exact ⟨rfl, hB5⟩
      · obtain ⟨g1, g2⟩ := neq_of h0
        clear hd h0
        go_wp2_with fail
        refine (hK1.out _ hv2 hu2).mono ?_
        rintro e w3 ⟨rfl, hb3⟩
        have bP3 := bP2.grown hb3
        have bR3 := bR2.grown hb3
        have hB3 := hB2.trans (hb3.mono hB2.size)
        have hv3 := hv2.mono hb3
        have hu3 := hu2.mono hb3
        have hx3 := hx2.mono hb3
        have hy3 := hy2.mono hb3
        clear bP2 bR2 hB2 hv2 hu2 hx2 hy2 hb3 c0 c1 r0 r1 r2
        have c0 := bP3.cell 0 rfl
        have c1 := bP3.cell 1 rfl
        have r0 := bR3.cell 0 rfl
        have r1 := bR3.cell 1 rfl
        have r2 := bR3.cell 2 rfl
        go_wp2_with fail
        refine (known_any _).mono ?_
        rintro e w4 ⟨rfl, hb4⟩
        have bP4 := bP3.grown hb4
        have bR4 := bR3.grown hb4
        have hB4 := hB3.trans (hb4.mono hB3.size)
        have hv4 := hv3.mono hb4
        have hu4 := hu3.mono hb4
        have hx4 := hx3.mono hb4
        have hy4 := hy3.mono hb4
        clear bP3 bR3 hB3 hv3 hu3 hx3 hy3 hb4 c0 c1 r0 r1 r2
        have c0 := bP4.cell 0 rfl
        have c1 := bP4.cell 1 rfl
        have r0 := bR4.cell 0 rfl
        have r1 := bR4.cell 1 rfl
        have r2 := bR4.cell 2 rfl
        go_wp2
        go_ret
        exact ⟨rfl, hB4⟩
end Go.Proofs.Ytbfldhmpgealpaa
