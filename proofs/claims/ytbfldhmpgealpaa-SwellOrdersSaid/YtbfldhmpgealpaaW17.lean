/- Contracts of the model's small and table. Conditions: lists of at most 2^63 elements. -/
import Derived.Test.YtbfldhmpgealpaaW10
namespace Go.Proofs.Ytbfldhmpgealpaa
open Go.RowKit

/-- a table of at most 10 divisions with at most 62 numbers and 66 levels -/
structure Small (T : Tab) : Prop where
  s : ∀ k, k < T.s.length → (nths T.s k).length ≤ 62
  b : ∀ k, k < T.b.length → (nths T.b k).length ≤ 66
  n : T.s.length ≤ 10
  m : T.b.length ≤ 10
theorem Small.fit {T : Tab} (h : Small T) : T.Fit := by
  refine ⟨by have := h.n; omega, by have := h.m; omega, fun k => ?_, fun k => ?_⟩
  · rcases Nat.lt_or_ge k T.s.length with h1 | h1
    · have := h.s k h1; omega
    · simp [nths, h1]
  · rcases Nat.lt_or_ge k T.b.length with h1 | h1
    · have := h.b k h1; omega
    · simp [nths, h1]
def SmallPost (T : Tab) (w : World) (e : Ending) (w' : World) : Prop := ∃ r : Bool, (r = true ↔ Small T) ∧ e = .returned (.bool r) ∧ Below w.heap.size w w'

set_option maxHeartbeats 4000000 in
theorem small_any (v u : Value) (T : Tab) (w : World) (hv : SlSl w v T.s) (hu : SlSl w u T.b) (h1 : T.s.length ≤ 9223372036854775807) (h2 : T.b.length ≤ 9223372036854775807)
    (h3 : ∀ k, (nths T.s k).length ≤ 9223372036854775807) (h4 : ∀ k, (nths T.b k).length ≤ 9223372036854775807) : Calls Try.prog 18 #[tabV v u] w (SmallPost T w) := by
  have hB := (Below.refl w.heap.size w).alloc (Nat.le_refl _) (.cells #[v, u] 35)
  have bP := BoxC.new w 35 #[v, u]
  have hv1 := hv.mono hB
  have hu1 := hu.mono hB
  obtain ⟨a, cap, rfl⟩ := hv.len
  obtain ⟨a2, cap2, rfl⟩ := hu.len
  clear hv hu
  go_enter Try.func18, Try.ntmps18
  go_wp2
  generalize hW : w.alloc (.cells #[.slice a T.s.length cap, .slice a2 T.b.length cap2] 35) = W at hB bP hv1 hu1 ⊢
  clear hW
  have p0 := bP.cell 0 rfl
  have p1 := bP.cell 1 rfl
  go_loop [3] (fun i => ∃ k : Nat, k ≤ T.s.length ∧ i = .int .i64 k ∧ Hid (∀ j, j < k → (nths T.s j).length ≤ 62)) (fun i => T.s.length - (intOf i).toNat)
  case atStart => exact ⟨0, Nat.zero_le _, rfl, fun j hj => absurd hj (by omega)⟩
  case round =>
    obtain ⟨k, hk, rfl, hal⟩ := hrel
    by_cases hlt : k < T.s.length
    · obtain ⟨b, off, cap', he, hc⟩ := hv1.at hlt
      cases he
      obtain ⟨x, cx, hx⟩ := hc k hlt
      obtain ⟨ax, capx, rfl⟩ := hx.len
      have hxl := h3 k
      have hki : (k : Int) < (T.s.length : Int) := by omega
      clear hc
      by_cases hq : 62 < (nths T.s k).length
      · have hn : ¬ Small T := fun h => by have := h.s k hlt; omega
        replace hn := Lib.hid hn
        generalize (nths T.s k).length = n at cx hxl hq
        go_wp2
        go_ret
        exact ⟨false, by simpa using hn.out, rfl, hB⟩
      · have hal2 : ∀ j, j < k + 1 → (nths T.s j).length ≤ 62 := fun j hj => by
          rcases Nat.lt_or_ge j k with h | h
          · exact hal.out j h
          · obtain rfl : j = k := by omega
            omega
        replace hal2 := Lib.hid hal2
        clear hal hx
        generalize (nths T.s k).length = n at cx hxl hq
        go_wp2
        go_round
        case rel => exact ⟨k + 1, by omega, by go_num, hal2⟩
        case measure => simp [intOf]; omega
    · obtain rfl : k = T.s.length := by omega
      go_wp2
      go_loop [4] (fun i => ∃ k : Nat, k ≤ T.b.length ∧ i = .int .i64 k ∧ Hid (∀ j, j < k → (nths T.b j).length ≤ 66)) (fun i => T.b.length - (intOf i).toNat)
      case atStart => exact ⟨0, Nat.zero_le _, rfl, fun j hj => absurd hj (by omega)⟩
      case round =>
        obtain ⟨k, hk2, rfl, hal2⟩ := hrel
        by_cases hlt2 : k < T.b.length
        · obtain ⟨b, off, cap', he, hc⟩ := hu1.at hlt2
          cases he
          obtain ⟨x, cx, hx⟩ := hc k hlt2
          obtain ⟨ax, capx, rfl⟩ := hx.len
          have hxl := h4 k
          have hki : (k : Int) < (T.b.length : Int) := by omega
          clear hc
          by_cases hq : 66 < (nths T.b k).length
          · have hn : ¬ Small T := fun h => by have := h.b k hlt2; omega
            replace hn := Lib.hid hn
            generalize (nths T.b k).length = n at cx hxl hq
            go_wp2
            go_ret
            exact ⟨false, by simpa using hn.out, rfl, hB⟩
          · have hal3 : ∀ j, j < k + 1 → (nths T.b j).length ≤ 66 := fun j hj => by
              rcases Nat.lt_or_ge j k with h | h
              · exact hal2.out j h
              · obtain rfl : j = k := by omega
                omega
            replace hal3 := Lib.hid hal3
            clear hal2 hx
            generalize (nths T.b k).length = n at cx hxl hq
            go_wp2
            go_round
            case rel => exact ⟨k + 1, by omega, by go_num, hal3⟩
            case measure => simp [intOf]; omega
        · obtain rfl : k = T.b.length := by omega
          by_cases q1 : T.s.length ≤ 10
          · by_cases q2 : T.b.length ≤ 10
            · have hn : Small T := ⟨hal.out, hal2.out, q1, q2⟩
              replace hn := Lib.hid hn
              go_wp2
              go_ret
              exact ⟨true, by simpa using hn.out, by simp; omega, hB⟩
            · have hn : ¬ Small T := fun h => q2 h.m
              replace hn := Lib.hid hn
              have q3 : 10 < T.b.length := by omega
              go_wp2
              go_ret
              exact ⟨false, by simpa using hn.out, by simp; omega, hB⟩
          · have hn : ¬ Small T := fun h => q1 h.n
            replace hn := Lib.hid hn
            have q3 : 10 < T.s.length := by omega
            go_wp2
            go_ret
            exact ⟨false, by simpa using hn.out, rfl, hB⟩

set_option maxHeartbeats 4000000 in
theorem table_any (v u : Value) (T : Tab) (w : World) (hv : SlSl w v T.s) (hu : SlSl w u T.b) (hT : T.Fit) : Calls Try.prog 19 #[tabV v u] w (IntBelow (tabF T) w) := by
  have hB := (Below.refl w.heap.size w).alloc (Nat.le_refl _) (.cells #[v, u] 35)
  have bP := BoxC.new w 35 #[v, u]
  have hv1 := hv.mono hB
  have hu1 := hu.mono hB
  obtain ⟨a, cap, rfl⟩ := hv.len
  obtain ⟨a2, cap2, rfl⟩ := hu.len
  have hTs := hT.s
  have hTb := hT.b
  clear hv hu
  obtain ⟨F, hF⟩ : ∃ F, tabF T = F := ⟨_, rfl⟩
  rw [hF]
  unfold tabF at hF
  by_cases h1 : 8 < T.s.length
  · rw [if_pos h1] at hF
    replace hF := Lib.hid hF
    go_enter Try.func19, Try.ntmps19
    go_wp2
    go_ret
    exact ⟨ret_int hF.out, hB⟩
  · rw [if_neg h1] at hF
    by_cases h2 : T.b.length = T.s.length
    · rw [if_neg (by simpa using h2)] at hF
      have h2' : ((T.b.length : Int) != (T.s.length : Int)) = false := by simp [h2]
      have h2'' : (T.b.length : Int) ≤ T.s.length ∧ (T.s.length : Int) ≤ T.b.length := by omega
      obtain ⟨g1, g2⟩ := h2''
      replace hF := Lib.hid hF
      replace h2 := Lib.hid h2
      go_enter Try.func19, Try.ntmps19
      go_wp2
      generalize hW : w.alloc (.cells #[.slice a T.s.length cap, .slice a2 T.b.length cap2] 35) = W at hB bP hv1 hu1 ⊢
      clear hW
      go_loopw [3] (fun i wr => ∃ k : Nat, k ≤ T.s.length ∧ i = .int .i64 k ∧ Hid (tabS T k = F) ∧ Below W.heap.size W wr) (fun i _ => T.s.length - (intOf i).toNat)
      case atStart => exact ⟨0, Nat.zero_le _, rfl, hF, Below.refl _ _⟩
      case round =>
        obtain ⟨k, hk, rfl, hFk, hBr⟩ := hrel
        have bPr := bP.grown hBr
        have p0 := bPr.cell 0 rfl
        have p1 := bPr.cell 1 rfl
        by_cases hlt : k < T.s.length
        · obtain ⟨b, off, cap', he, hc⟩ := (hv1.mono hBr).at hlt
          cases he
          obtain ⟨x, cx, hx⟩ := hc k hlt
          have hltb : k < T.b.length := by omega
          obtain ⟨b2, off2, cap2', he2, hc2⟩ := (hu1.mono hBr).at hltb
          cases he2
          obtain ⟨y, cy, hy⟩ := hc2 k hltb
          have hs1 := hT.ss k
          have hs2 := hT.bs k
          have L1 := @tabS_long T k hlt
          have L2 := @tabS_bad T k hlt
          have L3 := @tabS_none T k hlt
          have L4 := @tabS_box T k hlt
          have L5 := @tabS_next T k hlt
          have hki : (k : Int) < (T.s.length : Int) := by omega
          have hkb : (k : Int) < (T.b.length : Int) := by omega
          clear hc hc2 bP hv1 hu1
          obtain ⟨ax, capx, rfl⟩ := hx.len
          obtain ⟨ay, capy, rfl⟩ := hy.len
          by_cases q1 : 60 < (nths T.s k).length
          · replace L1 := Lib.hid (L1 q1)
            clear L2 L3 L4 L5
            go_wp2
            go_ret
            exact ⟨ret_int (L1.out.symm.trans hFk.out), hB.trans (hBr.mono hB.size)⟩
          · replace L2 := Lib.hid (L2 q1)
            replace L3 := Lib.hid (L3 q1)
            replace L4 := Lib.hid (L4 q1)
            replace L5 := Lib.hid (L5 q1)
            clear L1
            generalize hxs : nths T.s k = xs at *
            replace hxs := Lib.hid hxs
            go_wp2
            go_loop [4] (fun i => ∃ j : Nat, j ≤ xs.length ∧ i = .int .i64 j ∧ Hid (∀ i, i < j → loudP (nth xs i) = false)) (fun i => xs.length - (intOf i).toNat)
            case atStart => exact ⟨0, Nat.zero_le _, rfl, fun i hi => absurd hi (by omega)⟩
            case round =>
              obtain ⟨j, hj, rfl, hal⟩ := hrel
              by_cases hlj : j < xs.length
              · obtain ⟨b3, off3, cap3', he3, hc3⟩ := hx.at hlj
                cases he3
                have cj := hc3 j hlj
                have hji : (j : Int) < (xs.length : Int) := by omega
                clear hc3
                by_cases hz : 0 ≤ nth xs j ∧ nth xs j ≤ 1000000
                · have hal2 : ∀ i, i < j + 1 → loudP (nth xs i) = false := fun i hi => by
                    rcases Nat.lt_or_ge i j with h | h
                    · exact hal.out i h
                    · obtain rfl : i = j := by omega
                      unfold loudP
                      rw [betw_true hz]
                      rfl
                  replace hal2 := Lib.hid hal2
                  obtain ⟨z0, z1⟩ := hz
                  clear hal
                  generalize nth xs j = z at cj z0 z1
                  go_wp2
                  go_round
                  case rel => exact ⟨j + 1, by omega, by go_num, hal2⟩
                  case measure => simp [intOf]; omega
                · have hany : anyF loudP xs = true := anyF_true.2 ⟨j, hlj, by unfold loudP; rw [betw_false hz]; rfl⟩
                  have L := Lib.hid (L2.out hany)
                  clear hal hany
                  generalize nth xs j = z at cj hz
                  rcases (by omega : z < 0 ∨ (0 ≤ z ∧ 1000000 < z)) with z0 | ⟨z0, z1⟩
                  all_goals
                    clear hz
                    go_wp2
                    go_ret
                    exact ⟨ret_int (L.out.symm.trans hFk.out), hB.trans (hBr.mono hB.size)⟩
              · obtain rfl : j = xs.length := by omega
                have hany : anyF loudP xs = false := anyF_false.2 hal.out
                have M3 := L3.out hany
                have M4 := L4.out hany
                have M5 := L5.out hany
                have hck := check_any _ _ wr hy hs2
                clear hal hany L2 L3 L4 L5
                obtain ⟨d, hd⟩ : ∃ d, chkF (nths T.b k) = d := ⟨_, rfl⟩
                rw [hd] at hck M4 M5
                replace hck := Lib.hid hck
                by_cases q3 : (nths T.b k).length = 0
                · replace M3 := Lib.hid (M3 q3)
                  have q4 : ((nths T.b k).length : Int) ≤ 0 := by omega
                  clear M4 M5 hd
                  replace q3 := Lib.hid q3
                  go_wp2_with fail
                  refine hck.out.mono ?_
                  rintro e w' ⟨rfl, hb⟩
                  have p2 := (bPr.grown hb).cell 1 rfl
                  have cy2 := (hb.cell (p := ⟨b2, off2 + k, none⟩) (lt_of_cell cy)).trans cy
                  clear cy p0 p1
                  go_wp2
                  go_roundw
                  case rel => exact ⟨k + 1, by omega, by go_num, M3.out.symm.trans hFk.out, hBr.trans (hb.mono hBr.size)⟩
                  case measure => simp [intOf]; omega
                · have q4 : 0 < ((nths T.b k).length : Int) := by omega
                  replace M4 := M4 q3
                  replace M5 := M5 q3
                  clear M3 hd q3
                  by_cases q5 : d = 0
                  · replace M5 := Lib.hid (M5 q5)
                    clear M4
                    subst q5
                    go_wp2_with fail
                    refine hck.out.mono ?_
                    rintro e w' ⟨rfl, hb⟩
                    have p2 := (bPr.grown hb).cell 1 rfl
                    have cy2 := (hb.cell (p := ⟨b2, off2 + k, none⟩) (lt_of_cell cy)).trans cy
                    clear cy p0 p1
                    go_wp2
                    go_roundw
                    case rel => exact ⟨k + 1, by omega, by go_num, M5.out.symm.trans hFk.out, hBr.trans (hb.mono hBr.size)⟩
                    case measure => simp [intOf]; omega
                  · replace M4 := Lib.hid (M4 q5)
                    obtain ⟨q6, q7⟩ := neq_of q5
                    clear M5 q5
                    go_wp2_with fail
                    refine hck.out.mono ?_
                    rintro e w' ⟨rfl, hb⟩
                    have p2 := (bPr.grown hb).cell 1 rfl
                    have cy2 := (hb.cell (p := ⟨b2, off2 + k, none⟩) (lt_of_cell cy)).trans cy
                    clear cy p0 p1
                    go_wp2
                    go_ret
                    exact ⟨ret_int (M4.out.symm.trans hFk.out), hB.trans ((hBr.trans (hb.mono hBr.size)).mono hB.size)⟩
        · have hen := Lib.hid (tabS_end (T := T) (k := k) (by omega))
          go_wp2
          go_ret
          exact ⟨ret_int (hen.out.symm.trans hFk.out), hB.trans (hBr.mono hB.size)⟩
    · rw [if_pos h2] at hF
      have h2' : ((T.b.length : Int) != (T.s.length : Int)) = true := by simp; omega
      replace hF := Lib.hid hF
      go_enter Try.func19, Try.ntmps19
      go_wp2
      go_ret
      exact ⟨ret_int hF.out, hB⟩
end Go.Proofs.Ytbfldhmpgealpaa
