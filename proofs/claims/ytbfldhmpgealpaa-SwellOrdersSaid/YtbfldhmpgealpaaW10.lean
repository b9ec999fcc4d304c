/- Contracts of fits and drawn (the error of a registration) and of stages. Conditions: a table whose lists have at most 60 numbers. -/
import Derived.Test.YtbfldhmpgealpaaW9
namespace Go.Proofs.Ytbfldhmpgealpaa
open Go.RowKit

abbrev regV (v : Value) (c o : Int) : Value := .agg #[v, .int .u64 c, .int .u64 o]

def fitB (T : Tab) (rs : List Int) (k : Nat) (_ : Unit) : Int ⊕ Unit := if nth rs k / 2 ^ (nths T.s k).length ≠ 0 then .inl 10 else .inr ()
def fitS (T : Tab) (rs : List Int) (k : Nat) : Int := scan rs.length (fitB T rs) (fun _ => 0) k ()
/-- the error of a registration -/
def fitF (T : Tab) (rs : List Int) : Int := if rs.length ≠ T.s.length then 5 else fitS T rs 0
theorem fitS_bad {T : Tab} {rs : List Int} {k : Nat} (h : k < rs.length) (h1 : nth rs k / 2 ^ (nths T.s k).length ≠ 0) : fitS T rs k = 10 := scan_inl h (by unfold fitB; rw [if_pos h1])
theorem fitS_next {T : Tab} {rs : List Int} {k : Nat} (h : k < rs.length) (h1 : nth rs k / 2 ^ (nths T.s k).length = 0) : fitS T rs k = fitS T rs (k + 1) := scan_inr h (by unfold fitB; rw [if_neg (by simpa using h1)])
theorem fitS_end {T : Tab} {rs : List Int} {k : Nat} (h : rs.length ≤ k) : fitS T rs k = 0 := scan_ge h

def stgB (T : Tab) (l : List Int) (k : Nat) (_ : Unit) : Int ⊕ Unit := if ¬ (0 ≤ nth l k ∧ nth l k ≤ max 0 (((nths T.b k).length : Int) - 1)) then .inl 3 else .inr ()
def stgS (T : Tab) (l : List Int) (k : Nat) : Int := scan l.length (stgB T l) (fun _ => 0) k ()
/-- the error of stages -/
def stgF (T : Tab) (l : List Int) : Int := if l.length ≠ T.s.length then 5 else stgS T l 0
theorem stgS_bad {T : Tab} {l : List Int} {k : Nat} (h : k < l.length) (h1 : ¬ (0 ≤ nth l k ∧ nth l k ≤ max 0 (((nths T.b k).length : Int) - 1))) : stgS T l k = 3 := scan_inl h (by unfold stgB; rw [if_pos h1])
theorem stgS_next {T : Tab} {l : List Int} {k : Nat} (h : k < l.length) (h1 : 0 ≤ nth l k ∧ nth l k ≤ max 0 (((nths T.b k).length : Int) - 1)) : stgS T l k = stgS T l (k + 1) := scan_inr h (by unfold stgB; rw [if_neg (by simpa using h1)])
theorem stgS_end {T : Tab} {l : List Int} {k : Nat} (h : l.length ≤ k) : stgS T l k = 0 := scan_ge h

set_option maxHeartbeats 4000000 in
theorem fits_any (v u x : Value) (c o : Int) (T : Tab) (rs : List Int) (w : World) (hv : SlSl w v T.s) (hu : SlSl w u T.b) (hT : T.Fit) (hx : NumSl .u64 w x rs) (hr : rs.length ≤ 4611686018427387904)
    (h60 : ∀ k, k < T.s.length → (nths T.s k).length ≤ 60) :
    Calls Try.prog 42 #[tabV v u, regV x c o] w (IntBelow (fitF T rs) w) := by
  have hB := ((Below.refl w.heap.size w).alloc (Nat.le_refl _) (.cells #[v, u] 35)).alloc (by simp) (.cells #[x, .int .u64 c, .int .u64 o] 39)
  have bP := (BoxC.new w 35 #[v, u]).alloc (.cells #[x, .int .u64 c, .int .u64 o] 39)
  have bR := BoxC.new (w.alloc (.cells #[v, u] 35)) 39 #[x, .int .u64 c, .int .u64 o]
  simp only [World.size_alloc] at bR
  have hv1 := hv.mono hB
  have hx1 := hx.mono hB
  obtain ⟨a, cap, rfl⟩ := hv.len
  obtain ⟨a2, cap2, rfl⟩ := hu.len
  obtain ⟨a3, cap3, rfl⟩ := hx.len
  have hTs := hT.s
  clear hv hu hx
  obtain ⟨F, hF⟩ : ∃ F, fitF T rs = F := ⟨_, rfl⟩
  rw [hF]
  unfold fitF at hF
  by_cases h2 : rs.length = T.s.length
  · rw [if_neg (by simpa using h2)] at hF
    have h2' : ((rs.length : Int) != (T.s.length : Int)) = false := by simp [h2]
    have h2'' : (rs.length : Int) ≤ T.s.length ∧ (T.s.length : Int) ≤ rs.length := by omega
    obtain ⟨g1, g2⟩ := h2''
    replace hF := Lib.hid hF
    replace h2 := Lib.hid h2
    go_enter Try.func42, Try.ntmps42
    go_wp2
    generalize hW : (w.alloc (.cells #[.slice a T.s.length cap, .slice a2 T.b.length cap2] 35)).alloc (.cells #[.slice a3 rs.length cap3, .int .u64 c, .int .u64 o] 39) = W at hB bP bR hv1 hx1 ⊢
    clear hW
    go_loopw [17] (fun i wr => ∃ k : Nat, k ≤ rs.length ∧ i = .int .i64 k ∧ Hid (fitS T rs k = F) ∧ Below W.heap.size W wr) (fun i _ => rs.length - (intOf i).toNat)
    case atStart => exact ⟨0, Nat.zero_le _, rfl, hF, Below.refl _ _⟩
    case round =>
      obtain ⟨k, hk, rfl, hFk, hBr⟩ := hrel
      have p0 := (bP.grown hBr).cell 0 rfl
      have r0 := (bR.grown hBr).cell 0 rfl
      by_cases hlt : k < rs.length
      · obtain ⟨b, off, cap', he, hc⟩ := (hx1.mono hBr).at hlt
        cases he
        have cx := hc k hlt
        have hlts : k < T.s.length := by omega
        obtain ⟨b2, off2, cap2', he2, hc2⟩ := (hv1.mono hBr).at hlts
        cases he2
        obtain ⟨y, cy, hy⟩ := hc2 k hlts
        have hl := h60 k hlts
        obtain ⟨ay, capy, rfl⟩ := hy.len
        have L1 := @fitS_bad T rs k hlt
        have L2 := @fitS_next T rs k hlt
        clear hc hc2 bP bR hv1 hx1 hy h60
        generalize (nths T.s k).length = n at hl cy L1 L2
        generalize nth rs k = z at cx L1 L2
        by_cases hz : z / 2 ^ n = 0
        · replace L2 := Lib.hid (L2 hz)
          have hz2 : (z / 2 ^ n != 0) = false := by simp [hz]
          clear hz L1
          go_wp2
          go_roundw
          case rel => exact ⟨k + 1, by omega, by go_num, L2.out.symm.trans hFk.out, hBr⟩
          case measure => simp [intOf]; omega
        · replace L1 := Lib.hid (L1 hz)
          have hz2 : (z / 2 ^ n != 0) = true := by simpa using hz
          clear hz L2
          go_wp2
          go_ret
          exact ⟨ret_int (L1.out.symm.trans hFk.out), hB.trans (hBr.mono hB.size)⟩
      · have hen := Lib.hid (fitS_end (T := T) (rs := rs) (k := k) (by omega))
        go_wp2
        go_ret
        exact ⟨ret_int (hen.out.symm.trans hFk.out), hB.trans (hBr.mono hB.size)⟩
  · rw [if_pos h2] at hF
    have h2' : ((rs.length : Int) != (T.s.length : Int)) = true := by simp; omega
    replace hF := Lib.hid hF
    replace h2 := Lib.hid h2
    go_enter Try.func42, Try.ntmps42
    go_wp2
    go_ret
    exact ⟨ret_int hF.out, hB⟩

set_option maxHeartbeats 4000000 in
theorem drawn_any (v u x : Value) (c o : Int) (T : Tab) (rs : List Int) (w : World) (hv : SlSl w v T.s) (hu : SlSl w u T.b) (hT : T.Fit) (hx : NumSl .u64 w x rs) (hr : rs.length ≤ 4611686018427387904)
    (h60 : ∀ k, k < T.s.length → (nths T.s k).length ≤ 60) :
    Calls Try.prog 21 #[tabV v u, regV x c o] w (IntBelow (fitF T rs) w) := by
  have hB := ((Below.refl w.heap.size w).alloc (Nat.le_refl _) (.cells #[v, u] 35)).alloc (by simp) (.cells #[x, .int .u64 c, .int .u64 o] 39)
  have bP := (BoxC.new w 35 #[v, u]).alloc (.cells #[x, .int .u64 c, .int .u64 o] 39)
  have bR := BoxC.new (w.alloc (.cells #[v, u] 35)) 39 #[x, .int .u64 c, .int .u64 o]
  simp only [World.size_alloc] at bR
  have hv1 := hv.mono hB
  have hx1 := hx.mono hB
  obtain ⟨a, cap, rfl⟩ := hv.len
  obtain ⟨a2, cap2, rfl⟩ := hu.len
  obtain ⟨a3, cap3, rfl⟩ := hx.len
  have hTs := hT.s
  clear hv hu hx
  obtain ⟨F, hF⟩ : ∃ F, fitF T rs = F := ⟨_, rfl⟩
  rw [hF]
  unfold fitF at hF
  by_cases h2 : rs.length = T.s.length
  · rw [if_neg (by simpa using h2)] at hF
    have h2' : ((rs.length : Int) != (T.s.length : Int)) = false := by simp [h2]
    have h2'' : (rs.length : Int) ≤ T.s.length ∧ (T.s.length : Int) ≤ rs.length := by omega
    obtain ⟨g1, g2⟩ := h2''
    replace hF := Lib.hid hF
    replace h2 := Lib.hid h2
    go_enter Try.func21, Try.ntmps21
    go_wp2
    generalize hW : (w.alloc (.cells #[.slice a T.s.length cap, .slice a2 T.b.length cap2] 35)).alloc (.cells #[.slice a3 rs.length cap3, .int .u64 c, .int .u64 o] 39) = W at hB bP bR hv1 hx1 ⊢
    clear hW
    go_loopw [5] (fun i wr => ∃ k : Nat, k ≤ rs.length ∧ i = .int .i64 k ∧ Hid (fitS T rs k = F) ∧ Below W.heap.size W wr) (fun i _ => rs.length - (intOf i).toNat)
    case atStart => exact ⟨0, Nat.zero_le _, rfl, hF, Below.refl _ _⟩
    case round =>
      obtain ⟨k, hk, rfl, hFk, hBr⟩ := hrel
      have p0 := (bP.grown hBr).cell 0 rfl
      have r0 := (bR.grown hBr).cell 0 rfl
      by_cases hlt : k < rs.length
      · obtain ⟨b, off, cap', he, hc⟩ := (hx1.mono hBr).at hlt
        cases he
        have cx := hc k hlt
        have hlts : k < T.s.length := by omega
        obtain ⟨b2, off2, cap2', he2, hc2⟩ := (hv1.mono hBr).at hlts
        cases he2
        obtain ⟨y, cy, hy⟩ := hc2 k hlts
        have hl := h60 k hlts
        obtain ⟨ay, capy, rfl⟩ := hy.len
        have L1 := @fitS_bad T rs k hlt
        have L2 := @fitS_next T rs k hlt
        clear hc hc2 bP bR hv1 hx1 hy h60
        generalize (nths T.s k).length = n at hl cy L1 L2
        generalize nth rs k = z at cx L1 L2
        by_cases hz : z / 2 ^ n = 0
        · replace L2 := Lib.hid (L2 hz)
          have hz2 : (z / 2 ^ n != 0) = false := by simp [hz]
          clear hz L1
          go_wp2_with fail
          go_quiet (fail)
          go_wp2
          go_roundw
          case rel => exact ⟨k + 1, by omega, by go_num, L2.out.symm.trans hFk.out, below_drewN hBr _⟩
          case measure => simp [intOf]; omega
        · replace L1 := Lib.hid (L1 hz)
          have hz2 : (z / 2 ^ n != 0) = true := by simpa using hz
          clear hz L2
          go_wp2_with fail
          go_quiet (fail)
          go_wp2
          go_ret
          exact ⟨ret_int (L1.out.symm.trans hFk.out), hB.trans (below_drewN (hBr.mono hB.size) _)⟩
      · have hen := Lib.hid (fitS_end (T := T) (rs := rs) (k := k) (by omega))
        go_wp2
        go_ret
        exact ⟨ret_int (hen.out.symm.trans hFk.out), hB.trans (hBr.mono hB.size)⟩
  · rw [if_pos h2] at hF
    have h2' : ((rs.length : Int) != (T.s.length : Int)) = true := by simp; omega
    replace hF := Lib.hid hF
    replace h2 := Lib.hid h2
    go_enter Try.func21, Try.ntmps21
    go_wp2
    go_ret
    exact ⟨ret_int hF.out, hB⟩

set_option maxHeartbeats 4000000 in
theorem lawStages_any (v u x : Value) (T : Tab) (l : List Int) (w : World) (hv : SlSl w v T.s) (hu : SlSl w u T.b) (hT : T.Fit) (hx : NumSl .i64 w x l) (hr : l.length ≤ 4611686018427387904) (hsz : T.b.length = T.s.length) :
    Calls Try.prog 22 #[tabV v u, x] w (IntBelow (stgF T l) w) := by
  have hB := (Below.refl w.heap.size w).alloc (Nat.le_refl _) (.cells #[v, u] 35)
  have bP := BoxC.new w 35 #[v, u]
  have hu1 := hu.mono hB
  have hx1 := hx.mono hB
  obtain ⟨a, cap, rfl⟩ := hv.len
  obtain ⟨a2, cap2, rfl⟩ := hu.len
  obtain ⟨a3, cap3, rfl⟩ := hx.len
  have hTs := hT.s
  have hTb := hT.b
  clear hv hu hx
  obtain ⟨F, hF⟩ : ∃ F, stgF T l = F := ⟨_, rfl⟩
  rw [hF]
  unfold stgF at hF
  by_cases h2 : l.length = T.s.length
  · rw [if_neg (by simpa using h2)] at hF
    have h2' : ((l.length : Int) != (T.s.length : Int)) = false := by simp [h2]
    have h2'' : (l.length : Int) ≤ T.b.length ∧ (T.b.length : Int) ≤ l.length := by omega
    obtain ⟨g1, g2⟩ := h2''
    replace hF := Lib.hid hF
    replace h2 := Lib.hid h2
    replace hsz := Lib.hid hsz
    go_enter Try.func22, Try.ntmps22
    go_wp2
    generalize hW : w.alloc (.cells #[.slice a T.s.length cap, .slice a2 T.b.length cap2] 35) = W at hB bP hu1 hx1 ⊢
    clear hW
    go_loopw [5] (fun i wr => ∃ k : Nat, k ≤ l.length ∧ i = .int .i64 k ∧ Hid (stgS T l k = F) ∧ Below W.heap.size W wr) (fun i _ => l.length - (intOf i).toNat)
    case atStart => exact ⟨0, Nat.zero_le _, rfl, hF, Below.refl _ _⟩
    case round =>
      obtain ⟨k, hk, rfl, hFk, hBr⟩ := hrel
      have p1 := (bP.grown hBr).cell 1 rfl
      by_cases hlt : k < l.length
      · obtain ⟨b, off, cap', he, hc⟩ := (hx1.mono hBr).at hlt
        cases he
        have cx := hc k hlt
        have hlts : k < T.b.length := by omega
        obtain ⟨b2, off2, cap2', he2, hc2⟩ := (hu1.mono hBr).at hlts
        cases he2
        obtain ⟨y, cy, hy⟩ := hc2 k hlts
        have hl := hT.bs k
        obtain ⟨ay, capy, rfl⟩ := hy.len
        have L1 := @stgS_bad T l k hlt
        have L2 := @stgS_next T l k hlt
        clear hc hc2 bP hu1 hx1 hy
        have hki : (k : Int) < (T.b.length : Int) := by omega
        generalize (nths T.b k).length = n at hl cy L1 L2
        generalize nth l k = z at cx L1 L2
        by_cases z0 : z < 0
        · replace L1 := Lib.hid (L1 (by omega))
          have hz2 : decide (z < 0) = true := by simpa using z0
          clear L2
          go_wp2_with fail
          go_quiet (fail)
          go_wp2
          go_ret
          exact ⟨ret_int (L1.out.symm.trans hFk.out), hB.trans (below_drewN (hBr.mono hB.size) _)⟩
        · have hz2 : decide (z < 0) = false := by simpa using z0
          by_cases n0 : 1 < (n : Int)
          · by_cases hz : (n : Int) ≤ z
            · replace L1 := Lib.hid (L1 (by omega))
              have hz3 : decide ((n : Int) ≤ z) = true := by simpa using hz
              clear L2
              go_wp2_with fail
              go_quiet (fail)
              go_wp2
              go_ret
              exact ⟨ret_int (L1.out.symm.trans hFk.out), hB.trans (below_drewN (hBr.mono hB.size) _)⟩
            · replace L2 := Lib.hid (L2 (by omega))
              have hz3 : decide ((n : Int) ≤ z) = false := by simpa using hz
              clear L1
              go_wp2_with fail
              go_quiet (fail)
              go_wp2
              go_roundw
              case rel => exact ⟨k + 1, by omega, by go_num, L2.out.symm.trans hFk.out, below_drewN hBr _⟩
              case measure => simp [intOf]; omega
          · by_cases hz : 1 ≤ z
            · replace L1 := Lib.hid (L1 (by omega))
              have hz3 : decide (1 ≤ z) = true := by simpa using hz
              clear L2
              go_wp2_with fail
              go_quiet (fail)
              go_wp2
              go_ret
              exact ⟨ret_int (L1.out.symm.trans hFk.out), hB.trans (below_drewN (hBr.mono hB.size) _)⟩
            · replace L2 := Lib.hid (L2 (by omega))
              have hz3 : decide (1 ≤ z) = false := by simpa using hz
              clear L1
              go_wp2_with fail
              go_quiet (fail)
              go_wp2
              go_roundw
              case rel => exact ⟨k + 1, by omega, by go_num, L2.out.symm.trans hFk.out, below_drewN hBr _⟩
              case measure => simp [intOf]; omega
      · have hen := Lib.hid (stgS_end (T := T) (l := l) (k := k) (by omega))
        go_wp2
        go_ret
        exact ⟨ret_int (hen.out.symm.trans hFk.out), hB.trans (hBr.mono hB.size)⟩
  · rw [if_pos h2] at hF
    have h2' : ((l.length : Int) != (T.s.length : Int)) = true := by simp; omega
    replace hF := Lib.hid hF
    replace h2 := Lib.hid h2
    replace hsz := Lib.hid hsz
    go_enter Try.func22, Try.ntmps22
    go_wp2
    go_ret
    exact ⟨ret_int hF.out, hB⟩
end Go.Proofs.Ytbfldhmpgealpaa
