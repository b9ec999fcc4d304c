/- Contracts of checkDemand, and of the model's demanded and levels. Conditions: lists of at most 2^62 elements. -/
import Derived.Test.YtfefocgekmeahaaW0
import Derived.Deep.QuietTactic
import Derived.BigQuiet
namespace Go.Proofs.Ytfefocgekmeahaa
open Go.RowKit

def noFl (n : Int) : Bool := !betw n 0 1000000000
/-- the error of a demand -/
def deF (ns : List Nd) (d : List Int) : Int := if d.length ≠ ns.length then 5 else if anyF noFl d = true then 3 else 0
theorem dmOk_of {ns : List Nd} {d : List Int} (h : deF ns d = 0) : DmOk ns d := by
  unfold deF at h
  split at h
  · cases h
  · rename_i h1
    split at h
    · cases h
    · rename_i h2
      refine ⟨by simpa using h1, fun k hk => ?_⟩
      have := anyF_false.1 (by simpa using h2) k (by omega)
      unfold noFl at this
      exact betw_iff.1 (by simpa using this)

set_option maxHeartbeats 400000 in
theorem noFl_any (n : Int) (w : World) : Calls Try.prog 52 #[.int .i64 n] w (BoolBelow (noFl n) w) := by
  go_enter Try.func52, Try.ntmps52
  go_wp2_with (go_at_call 42; refine (flow_any _ _).mono ?_; rintro e w' ⟨rfl, rfl⟩)
  go_ret
  exact ⟨rfl, Below.refl _ _⟩

set_option maxHeartbeats 2000000 in
theorem checkDemand_any (sup : Int) (v : Value) (ns : List Nd) (u : Value) (d : List Int) (w : World) (hv : NdSl w v ns) (hu : NumSl .i64 w u d) (hd : d.length ≤ 4611686018427387904) :
    Calls Try.prog 43 #[plV sup v, u] w (IntBelow (deF ns d) w) := by
  have hB := (Below.refl w.heap.size w).alloc (Nat.le_refl _) (.cells #[.int .i64 sup, v] 24)
  have hu1 := hu.mono hB
  obtain ⟨a, cap, rfl⟩ := hv.len
  obtain ⟨a2, cap2, rfl⟩ := hu.len
  have hcf := containsFunc_any .i64 52 #[] noFl _ d _ (fun n w' _ => noFl_any n w') (enters_of Try.func52 (by kernel_rfl) rfl) hu1 hd
  clear hv hu hu1
  obtain ⟨F, hF⟩ : ∃ F, deF ns d = F := ⟨_, rfl⟩
  rw [hF]
  unfold deF at hF
  by_cases h1 : d.length = ns.length
  · have h1' : ((d.length : Int) != (ns.length : Int)) = false := by simp [h1]
    rw [if_neg (by simpa using h1)] at hF
    replace h1 := Lib.hid h1
    replace hcf := Lib.hid hcf
    generalize anyF noFl d = q at hcf hF
    cases q
    all_goals
      simp only [if_true, if_false, Bool.false_eq_true] at hF
      replace hF := Lib.hid hF
      go_enter Try.func43, Try.ntmps43
      go_wp2_with fail
      refine hcf.out.mono ?_
      rintro e w' ⟨rfl, hb⟩
      go_wp2
      go_ret
      exact ⟨ret_int hF.out, hB.trans (hb.mono hB.size)⟩
  · have h1' : ((d.length : Int) != (ns.length : Int)) = true := by simp; omega
    rw [if_pos h1] at hF
    replace hF := Lib.hid hF
    clear hcf h1
    go_enter Try.func43, Try.ntmps43
    go_wp2
    go_ret
    exact ⟨ret_int hF.out, hB⟩

set_option maxHeartbeats 2000000 in
theorem demanded_any (sup : Int) (v : Value) (ns : List Nd) (u : Value) (d : List Int) (w : World) (hv : NdSl w v ns) (hu : NumSl .i64 w u d) (hd : d.length ≤ 4611686018427387904) :
    Calls Try.prog 26 #[plV sup v, u] w (IntBelow (deF ns d) w) := by
  have hB := (Below.refl w.heap.size w).alloc (Nat.le_refl _) (.cells #[.int .i64 sup, v] 24)
  have hu1 := hu.mono hB
  obtain ⟨a, cap, rfl⟩ := hv.len
  obtain ⟨a2, cap2, rfl⟩ := hu.len
  clear hv hu
  obtain ⟨F, hF⟩ : ∃ F, deF ns d = F := ⟨_, rfl⟩
  rw [hF]
  unfold deF at hF
  by_cases h1 : d.length = ns.length
  · have h1' : ((d.length : Int) != (ns.length : Int)) = false := by simp [h1]
    rw [if_neg (by simpa using h1)] at hF
    replace h1 := Lib.hid h1
    replace hF := Lib.hid hF
    go_enter Try.func26, Try.ntmps26
    go_wp2
    generalize hW : w.alloc (.cells #[.int .i64 sup, .slice a ns.length cap] 24) = W at hB hu1 ⊢
    clear hW
    go_loop [5] (fun i => ∃ k : Nat, k ≤ d.length ∧ i = .int .i64 k ∧ Hid (∀ j, j < k → noFl (nth d j) = false)) (fun i => d.length - (intOf i).toNat)
    case atStart => exact ⟨0, Nat.zero_le _, rfl, Lib.hid (fun j hj => absurd hj (by omega))⟩
    case round =>
      obtain ⟨k, hk, rfl, hal⟩ := hrel
      by_cases hlt : k < d.length
      · obtain ⟨b, off, cap', he, hc⟩ := hu1.at hlt
        cases he
        have ck := hc k hlt
        have hki : (k : Int) < (d.length : Int) := by omega
        clear hc
        by_cases hz : 0 ≤ nth d k ∧ nth d k ≤ 1000000000
        · have e1 := Lib.hid (betw_true hz)
          have hal2 : ∀ j, j < k + 1 → noFl (nth d j) = false := fun j hj => by
            rcases Nat.lt_or_ge j k with h | h
            · exact hal.out j h
            · obtain rfl : j = k := by omega
              unfold noFl
              rw [betw_true hz]
              rfl
          replace hal2 := Lib.hid hal2
          clear hal hz
          generalize nth d k = z at ck e1
          go_wp2_with (go_at_call 36; refine (lflow_any _ _).mono ?_; rintro e w' ⟨rfl, rfl⟩; rw [e1.out])
          go_round
          case rel => exact ⟨k + 1, by omega, by go_num, hal2⟩
          case measure => simp [intOf]; omega
        · have e1 := Lib.hid (betw_false hz)
          have hF2 := hF.out
          rw [if_pos (anyF_true.2 ⟨k, hlt, by unfold noFl; rw [betw_false hz]; rfl⟩)] at hF2
          replace hF2 := Lib.hid hF2
          clear hal hz
          generalize nth d k = z at ck e1
          go_wp2_with (go_at_call 36; refine (lflow_any _ _).mono ?_; rintro e w' ⟨rfl, rfl⟩; rw [e1.out])
          go_ret
          exact ⟨ret_int hF2.out, hB⟩
      · obtain rfl : k = d.length := by omega
        have hF2 := hF.out
        rw [if_neg (by rw [anyF_false.2 hal.out]; simp)] at hF2
        replace hF2 := Lib.hid hF2
        go_wp2
        go_ret
        exact ⟨ret_int hF2.out, hB⟩
  · have h1' : ((d.length : Int) != (ns.length : Int)) = true := by simp; omega
    rw [if_pos h1] at hF
    replace hF := Lib.hid hF
    clear h1
    go_enter Try.func26, Try.ntmps26
    go_wp2
    go_ret
    exact ⟨ret_int hF.out, hB⟩

def lvB (ns : List Nd) (l : List Int) (k : Nat) (_ : Unit) : Int ⊕ Unit := if ¬ (0 ≤ nth l k ∧ nth l k ≤ (nd ns k).c) then .inl 3 else .inr ()
def lvS (ns : List Nd) (l : List Int) (k : Nat) : Int := scan ns.length (lvB ns l) (fun _ => 0) k ()
/-- the error of levels -/
def lvF (ns : List Nd) (l : List Int) : Int := if l.length ≠ ns.length then 5 else lvS ns l 0
section
variable {ns : List Nd} {l : List Int} {k : Nat}
theorem lvS_bad (h : k < ns.length) (h1 : ¬ (0 ≤ nth l k ∧ nth l k ≤ (nd ns k).c)) : lvS ns l k = 3 := scan_inl h (by unfold lvB; rw [if_pos h1])
theorem lvS_next (h : k < ns.length) (h1 : 0 ≤ nth l k ∧ nth l k ≤ (nd ns k).c) : lvS ns l k = lvS ns l (k + 1) := scan_inr h (by unfold lvB; rw [if_neg (by simpa using h1)])
theorem lvS_end (h : ns.length ≤ k) : lvS ns l k = 0 := scan_ge h
theorem lvS_step (h : k < ns.length) (h0 : lvS ns l k = 0) : (0 ≤ nth l k ∧ nth l k ≤ (nd ns k).c) ∧ lvS ns l (k + 1) = 0 := by
  by_cases h1 : 0 ≤ nth l k ∧ nth l k ≤ (nd ns k).c
  · exact ⟨h1, by rw [← lvS_next h h1]; exact h0⟩
  · rw [lvS_bad h h1] at h0; cases h0
theorem lvS_all (h0 : lvS ns l 0 = 0) : ∀ k, k ≤ ns.length → lvS ns l k = 0
  | 0, _ => h0
  | k + 1, h => (lvS_step (by omega) (lvS_all h0 k (by omega))).2
end
theorem lvOk_of {ns : List Nd} {l : List Int} (h : lvF ns l = 0) : LvOk ns l := by
  unfold lvF at h
  split at h
  · cases h
  · rename_i h1
    exact ⟨by simpa using h1, fun k hk => (lvS_step hk (lvS_all h k (by omega))).1⟩

set_option maxHeartbeats 4000000 in
theorem levels_any (sup : Int) (v : Value) (ns : List Nd) (u : Value) (l : List Int) (w : World) (hv : NdSl w v ns) (hn : ns.length ≤ 4611686018427387904) (hu : NumSl .i64 w u l) :
    Calls Try.prog 31 #[plV sup v, u] w (IntBelow (lvF ns l) w) := by
  have hB := (Below.refl w.heap.size w).alloc (Nat.le_refl _) (.cells #[.int .i64 sup, v] 24)
  have bP := BoxC.new w 24 #[.int .i64 sup, v]
  have hu1 := hu.mono hB
  have hv1 := hv.mono hB
  obtain ⟨a, cap, rfl⟩ := hv.len
  obtain ⟨a2, cap2, rfl⟩ := hu.len
  clear hv hu
  obtain ⟨F, hF⟩ : ∃ F, lvF ns l = F := ⟨_, rfl⟩
  rw [hF]
  unfold lvF at hF
  by_cases h1 : l.length = ns.length
  · have h1' : ((l.length : Int) != (ns.length : Int)) = false := by simp [h1]
    have hli : (l.length : Int) ≤ ns.length ∧ (ns.length : Int) ≤ l.length := by omega
    obtain ⟨g1, g2⟩ := hli
    rw [if_neg (by simpa using h1)] at hF
    replace h1 := Lib.hid h1
    replace hF := Lib.hid hF
    go_enter Try.func31, Try.ntmps31
    go_wp2
    generalize hW : w.alloc (.cells #[.int .i64 sup, .slice a ns.length cap] 24) = W at hB hu1 hv1 bP ⊢
    clear hW
    go_loopw [5] (fun i wr => ∃ k : Nat, k ≤ l.length ∧ i = .int .i64 k ∧ Hid (lvS ns l k = F) ∧ Below W.heap.size W wr) (fun i _ => l.length - (intOf i).toNat)
    case atStart => exact ⟨0, Nat.zero_le _, rfl, hF, Below.refl _ _⟩
    case round =>
      obtain ⟨k, hk, rfl, hFk, hBr⟩ := hrel
      have hBq := hB.trans (hBr.mono hB.size)
      by_cases hlt : k < l.length
      · obtain ⟨b, off, cap', he, hc⟩ := (hu1.mono hBr).at hlt
        cases he
        have ck := hc k hlt
        have hltn : k < ns.length := by omega
        obtain ⟨b2, off2, cap2', he2, hc2⟩ := (hv1.mono hBr).at hltn
        cases he2
        have c3 := (hc2 k hltn).2.2.1
        have p1 := (bP.grown hBr).cell 1 rfl
        have L1 := @lvS_bad ns l k hltn
        have L2 := @lvS_next ns l k hltn
        have hki : (k : Int) < (l.length : Int) := by omega
        have hki2 : (k : Int) < (ns.length : Int) := by omega
        clear hc hc2 bP hu1 hv1 hB
        generalize nth l k = z at ck L1 L2
        generalize (nd ns k).c = c at c3 L1 L2
        by_cases hz : 0 ≤ z ∧ z ≤ c
        · replace L2 := Lib.hid (L2 hz)
          have d1 : decide (z < 0) = false := decide_eq_false (by omega)
          have d2 : decide (c < z) = false := decide_eq_false (by omega)
          clear L1
          go_wp2
          go_quiet (fail)
          go_wp2
          go_roundw
          case rel => exact ⟨k + 1, by omega, by go_num, L2.out.symm.trans hFk.out, below_drewN hBr _⟩
          case measure => simp [intOf]; omega
        · replace L1 := Lib.hid (L1 hz)
          clear L2
          by_cases hz0 : z < 0
          · have d1 : decide (z < 0) = true := decide_eq_true hz0
            go_wp2
            go_quiet (fail)
            go_wp2
            go_ret
            exact ⟨ret_int (L1.out.symm.trans hFk.out), below_drewN hBq _⟩
          · have d1 : decide (z < 0) = false := decide_eq_false hz0
            have d2 : decide (c < z) = true := decide_eq_true (by omega)
            go_wp2
            go_quiet (fail)
            go_wp2
            go_ret
            exact ⟨ret_int (L1.out.symm.trans hFk.out), below_drewN hBq _⟩
      · have hen := Lib.hid (lvS_end (ns := ns) (l := l) (k := k) (by omega))
        go_wp2
        go_ret
        exact ⟨ret_int (hen.out.symm.trans hFk.out), hBq⟩
  · have h1' : ((l.length : Int) != (ns.length : Int)) = true := by simp; omega
    rw [if_pos h1] at hF
    replace hF := Lib.hid hF
    clear h1
    go_enter Try.func31, Try.ntmps31
    go_wp2
    go_ret
    exact ⟨ret_int hF.out, hB⟩
end Go.Proofs.Ytfefocgekmeahaa
