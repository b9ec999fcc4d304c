/- What a plant reads as; contracts of flow and of both checks of a plant. Conditions: lists of at most 2^63 elements. -/
import Derived.Test.YtfefocgekmeahaaP3
import Derived.Test.YtfefocgekmeahaaContains
namespace Go.Proofs.Ytfefocgekmeahaa
open Go.RowKit

/-- v reads in w as the nodes ns -/
def NdSl (w : World) (v : Value) (ns : List Nd) : Prop :=
  ((∃ a cap, v = .slice a 0 cap) ∧ ns = []) ∨ ∃ b off cap, v = .slice (some ⟨b, off, none⟩) ns.length cap ∧
    ∀ i, i < ns.length → w.cell? ⟨b, off + i * 4, none⟩ = some (.int .i64 (nd ns i).p) ∧ w.cell? ⟨b, off + i * 4 + 1, none⟩ = some (.int .i64 (nd ns i).m) ∧
      w.cell? ⟨b, off + i * 4 + 2, none⟩ = some (.int .i64 (nd ns i).c) ∧ w.cell? ⟨b, off + i * 4 + 3, none⟩ = some (.int .i64 (nd ns i).l)
theorem NdSl.len {w : World} {v : Value} {ns : List Nd} (h : NdSl w v ns) : ∃ a cap, v = .slice a ns.length cap := by
  rcases h with ⟨⟨a, cap, rfl⟩, rfl⟩ | ⟨b, off, cap, rfl, _⟩
  · exact ⟨a, cap, rfl⟩
  · exact ⟨some ⟨b, off, none⟩, cap, rfl⟩
theorem NdSl.at {w : World} {v : Value} {ns : List Nd} (h : NdSl w v ns) {k : Nat} (hk : k < ns.length) : ∃ b off cap, v = .slice (some ⟨b, off, none⟩) ns.length cap ∧
    ∀ i, i < ns.length → w.cell? ⟨b, off + i * 4, none⟩ = some (.int .i64 (nd ns i).p) ∧ w.cell? ⟨b, off + i * 4 + 1, none⟩ = some (.int .i64 (nd ns i).m) ∧
      w.cell? ⟨b, off + i * 4 + 2, none⟩ = some (.int .i64 (nd ns i).c) ∧ w.cell? ⟨b, off + i * 4 + 3, none⟩ = some (.int .i64 (nd ns i).l) := by
  rcases h with ⟨_, rfl⟩ | h
  · simp at hk
  · exact h
theorem NdSl.mono {w w' : World} {v : Value} {ns : List Nd} (h : NdSl w v ns) (hb : Below w.heap.size w w') : NdSl w' v ns := by
  rcases h with h | ⟨b, off, cap, rfl, hc⟩
  · exact .inl h
  · refine .inr ⟨b, off, cap, rfl, fun i hi => ?_⟩
    obtain ⟨h1, h2, h3, h4⟩ := hc i hi
    exact ⟨(hb.cell (p := ⟨b, _, none⟩) (lt_of_cell h1)).trans h1, (hb.cell (p := ⟨b, _, none⟩) (lt_of_cell h2)).trans h2, (hb.cell (p := ⟨b, _, none⟩) (lt_of_cell h3)).trans h3, (hb.cell (p := ⟨b, _, none⟩) (lt_of_cell h4)).trans h4⟩
theorem NdSl.own {w : World} {v : Value} {ns : List Nd} (h : NdSl w v ns) (hn : 0 < ns.length) : ∃ b, v.ownBlock = some b ∧ b < w.heap.size := by
  obtain ⟨b, off, cap, rfl, hc⟩ := h.at hn
  exact ⟨b, rfl, lt_of_cell (hc 0 hn).1⟩
theorem NdSl.other {w w' : World} {v : Value} {ns : List Nd} {m : Nat → Prop} {B : Option Nat} (h : NdSl w v ns) (hk : Keeps m B w w') (hn : ∀ b, v.ownBlock = some b → 0 < ns.length → ¬ fpB m B w b) : NdSl w' v ns := by
  rcases h with h | ⟨b, off, cap, rfl, hc⟩
  · exact .inl h
  · refine .inr ⟨b, off, cap, rfl, fun i hi => ?_⟩
    obtain ⟨h1, h2, h3, h4⟩ := hc i hi
    have hf := hn b rfl (by omega)
    exact ⟨hk.cell (p := ⟨b, _, none⟩) hf h1, hk.cell (p := ⟨b, _, none⟩) hf h2, hk.cell (p := ⟨b, _, none⟩) hf h3, hk.cell (p := ⟨b, _, none⟩) hf h4⟩
abbrev ndV (x : Nd) : Value := .agg #[.int .i64 x.p, .int .i64 x.m, .int .i64 x.c, .int .i64 x.l]
abbrev ndC (x : Nd) : Array Value := #[.int .i64 x.p, .int .i64 x.m, .int .i64 x.c, .int .i64 x.l]
abbrev plV (sup : Int) (v : Value) : Value := .agg #[.int .i64 sup, v]

/-- the numbers of a node are in range -/
def NdR (x : Nd) : Prop := (0 ≤ x.m ∧ x.m ≤ 1000000000) ∧ (0 ≤ x.c ∧ x.c ≤ 1000000000) ∧ (0 ≤ x.l ∧ x.l ≤ 1000000000)
instance (x : Nd) : Decidable (NdR x) := by unfold NdR; exact inferInstance
def ckB (ns : List Nd) (k : Nat) (_ : Unit) : Int ⊕ Unit :=
  if ¬ (-1 ≤ (nd ns k).p ∧ (nd ns k).p < k) then .inl 6 else if ¬ NdR (nd ns k) then .inl 3 else if (nd ns k).c < (nd ns k).l then .inl 7 else .inr ()
def ckS (ns : List Nd) (k : Nat) : Int := scan ns.length (ckB ns) (fun _ => 0) k ()
/-- the error of a plant -/
def ckF (sup : Int) (ns : List Nd) : Int := if ¬ (0 ≤ sup ∧ sup ≤ 1000000000) then 3 else if 30 < ns.length then 4 else ckS ns 0
section
variable {ns : List Nd} {k : Nat}
theorem ckS_order (h : k < ns.length) (h1 : ¬ (-1 ≤ (nd ns k).p ∧ (nd ns k).p < k)) : ckS ns k = 6 := scan_inl h (by unfold ckB; rw [if_pos h1])
theorem ckS_range (h : k < ns.length) (h1 : -1 ≤ (nd ns k).p ∧ (nd ns k).p < k) (h2 : ¬ NdR (nd ns k)) : ckS ns k = 3 := scan_inl h (by unfold ckB; rw [if_neg (by simpa using h1), if_pos h2])
theorem ckS_form (h : k < ns.length) (h1 : -1 ≤ (nd ns k).p ∧ (nd ns k).p < k) (h2 : NdR (nd ns k)) (h3 : (nd ns k).c < (nd ns k).l) : ckS ns k = 7 := scan_inl h (by unfold ckB; rw [if_neg (by simpa using h1), if_neg (by simpa using h2), if_pos h3])
theorem ckS_next (h : k < ns.length) (h1 : -1 ≤ (nd ns k).p ∧ (nd ns k).p < k) (h2 : NdR (nd ns k)) (h3 : ¬ (nd ns k).c < (nd ns k).l) : ckS ns k = ckS ns (k + 1) := scan_inr h (by unfold ckB; rw [if_neg (by simpa using h1), if_neg (by simpa using h2), if_neg h3])
theorem ckS_end (h : ns.length ≤ k) : ckS ns k = 0 := scan_ge h
theorem ckS_step (h : k < ns.length) (h0 : ckS ns k = 0) : (-1 ≤ (nd ns k).p ∧ (nd ns k).p < k) ∧ NdR (nd ns k) ∧ (nd ns k).l ≤ (nd ns k).c ∧ ckS ns (k + 1) = 0 := by
  by_cases h1 : -1 ≤ (nd ns k).p ∧ (nd ns k).p < k
  · by_cases h2 : NdR (nd ns k)
    · by_cases h3 : (nd ns k).c < (nd ns k).l
      · rw [ckS_form h h1 h2 h3] at h0; cases h0
      · exact ⟨h1, h2, by omega, by rw [← ckS_next h h1 h2 h3]; exact h0⟩
    · rw [ckS_range h h1 h2] at h0; cases h0
  · rw [ckS_order h h1] at h0; cases h0
theorem ckS_all (h0 : ckS ns 0 = 0) : ∀ k, k ≤ ns.length → ckS ns k = 0
  | 0, _ => h0
  | k + 1, h => (ckS_step (by omega) (ckS_all h0 k (by omega))).2.2.2
end
theorem plOk_of {sup : Int} {ns : List Nd} (h : ckF sup ns = 0) : (0 ≤ sup ∧ sup ≤ 1000000000) ∧ PlOk ns := by
  unfold ckF at h
  split at h
  · cases h
  · rename_i h1
    split at h
    · cases h
    · rename_i h2
      have hs := fun k hk => ckS_step (ns := ns) (k := k) hk (ckS_all h k (by omega))
      exact ⟨by omega, by omega, fun k hk => (hs k hk).1, fun k hk => (hs k hk).2.1.1, fun k hk => (hs k hk).2.1.2.1, fun k hk => ⟨(hs k hk).2.1.2.2.1, (hs k hk).2.2.1⟩⟩

set_option maxHeartbeats 400000 in
theorem flow_any (n : Int) (w : World) : Calls Try.prog 42 #[.int .i64 n] w fun e w' => e = .returned (.bool (betw n 0 1000000000)) ∧ w = w' := by
  by_cases h : 0 ≤ n
  · go_enter Try.func42, Try.ntmps42
    go_wp2
    go_ret
    simp [betw, h]
  · have h' : n < 0 := by omega
    go_enter Try.func42, Try.ntmps42
    go_wp2
    go_ret
    simp [betw]; omega

set_option maxHeartbeats 400000 in
theorem lflow_any (n : Int) (w : World) : Calls Try.prog 36 #[.int .i64 n] w fun e w' => e = .returned (.bool (betw n 0 1000000000)) ∧ w = w' := by
  by_cases h : 0 ≤ n
  · go_enter Try.func36, Try.ntmps36
    go_wp2
    go_ret
    simp [betw, h]
  · have h' : n < 0 := by omega
    go_enter Try.func36, Try.ntmps36
    go_wp2
    go_ret
    simp [betw]; omega

set_option maxRecDepth 100000 in
set_option maxHeartbeats 4000000 in
theorem Check_any (sup : Int) (v : Value) (ns : List Nd) (w : World) (hv : NdSl w v ns) (hm : ns.length ≤ 9223372036854775807) : Calls Try.prog 23 #[plV sup v] w (IntBelow (ckF sup ns) w) := by
  have hB := (Below.refl w.heap.size w).alloc (Nat.le_refl _) (.cells #[.int .i64 sup, v] 24)
  have bP := BoxC.new w 24 #[.int .i64 sup, v]
  have hv1 := hv.mono hB
  obtain ⟨a, cap, rfl⟩ := hv.len
  clear hv
  obtain ⟨F, hF⟩ : ∃ F, ckF sup ns = F := ⟨_, rfl⟩
  rw [hF]
  unfold ckF at hF
  by_cases h1 : 0 ≤ sup ∧ sup ≤ 1000000000
  · rw [if_neg (by simpa using h1)] at hF
    have e1 := Lib.hid (betw_true h1)
    clear h1
    by_cases h2 : 30 < ns.length
    · rw [if_pos h2] at hF
      replace hF := Lib.hid hF
      clear hv1 bP
      go_enter Try.func23, Try.ntmps23
      go_wp2_with (go_at_call 42; refine (flow_any _ _).mono ?_; rintro e w' ⟨rfl, rfl⟩; rw [e1.out])
      go_ret
      exact ⟨ret_int hF.out, hB⟩
    · rw [if_neg h2] at hF
      replace hF := Lib.hid hF
      go_enter Try.func23, Try.ntmps23
      go_wp2_with (go_at_call 42; refine (flow_any _ _).mono ?_; rintro e w' ⟨rfl, rfl⟩; rw [e1.out])
      generalize hW : w.alloc (.cells #[.int .i64 sup, .slice a ns.length cap] 24) = W at hB bP hv1 ⊢
      clear hW
      go_loopw [18] (fun i wr => ∃ k : Nat, k ≤ ns.length ∧ i = .int .i64 k ∧ Hid (ckS ns k = F) ∧ Below W.heap.size W wr) (fun i _ => ns.length - (intOf i).toNat)
      case atStart => exact ⟨0, Nat.zero_le _, rfl, hF, Below.refl _ _⟩
      case round =>
        obtain ⟨k, hk, rfl, hFk, hBr⟩ := hrel
        have p1 := (bP.grown hBr).cell 1 rfl
        by_cases hlt : k < ns.length
        · obtain ⟨b, off, cap', he, hc⟩ := (hv1.mono hBr).at hlt
          cases he
          obtain ⟨c1, c2, c3, c4⟩ := hc k hlt
          have L1 := @ckS_order ns k hlt
          have L2 := @ckS_range ns k hlt
          have L3 := @ckS_form ns k hlt
          have L4 := @ckS_next ns k hlt
          have hki : (k : Int) < (ns.length : Int) := by omega
          have hBm := hBr.trans (((Below.refl wr.heap.size wr).alloc (Nat.le_refl _) (.cells (ndC (nd ns k)) 42)).mono hBr.size)
          clear hc hv1 bP
          generalize nd ns k = x at c1 c2 c3 c4 L1 L2 L3 L4 hBm
          obtain ⟨p, m, c, l⟩ := x
          simp only at c1 c2 c3 c4 L1 L2 L3 L4 hBm
          unfold NdR at L2 L3 L4
          simp only at L2 L3 L4
          by_cases q1 : -1 ≤ p ∧ p < k
          · replace L2 := L2 q1
            replace L3 := L3 q1
            replace L4 := L4 q1
            obtain ⟨q11, q12⟩ := q1
            clear L1
            by_cases q2 : 0 ≤ m ∧ m ≤ 1000000000
            · have e2 := Lib.hid (betw_true q2)
              by_cases q3 : 0 ≤ c ∧ c ≤ 1000000000
              · have e3 := Lib.hid (betw_true q3)
                by_cases q4 : 0 ≤ l ∧ l ≤ 1000000000
                · have e4 := Lib.hid (betw_true q4)
                  replace L3 := L3 ⟨q2, q3, q4⟩
                  replace L4 := L4 ⟨q2, q3, q4⟩
                  clear L2 q2 q3 q4
                  by_cases q5 : c < l
                  · replace L3 := Lib.hid (L3 q5)
                    clear L4
                    go_wp2_with (go_at_call 42; refine (flow_any _ _).mono ?_; rintro e w' ⟨rfl, rfl⟩; first | rw [e2.out] | rw [e3.out] | rw [e4.out])
                    go_ret
                    exact ⟨ret_int (L3.out.symm.trans hFk.out), hB.trans (hBm.mono hB.size)⟩
                  · replace L4 := Lib.hid (L4 q5)
                    clear L3
                    go_wp2_with (go_at_call 42; refine (flow_any _ _).mono ?_; rintro e w' ⟨rfl, rfl⟩; first | rw [e2.out] | rw [e3.out] | rw [e4.out])
                    go_roundw
                    case rel => exact ⟨k + 1, by omega, by go_num, L4.out.symm.trans hFk.out, hBm⟩
                    case measure => simp [intOf]; omega
                · have e4 := Lib.hid (betw_false q4)
                  replace L2 := Lib.hid (L2 (fun h => q4 h.2.2))
                  clear L3 L4 q2 q3 q4
                  go_wp2_with (go_at_call 42; refine (flow_any _ _).mono ?_; rintro e w' ⟨rfl, rfl⟩; first | rw [e2.out] | rw [e3.out] | rw [e4.out])
                  go_ret
                  exact ⟨ret_int (L2.out.symm.trans hFk.out), hB.trans (hBm.mono hB.size)⟩
              · have e3 := Lib.hid (betw_false q3)
                replace L2 := Lib.hid (L2 (fun h => q3 h.2.1))
                clear L3 L4 q2 q3
                go_wp2_with (go_at_call 42; refine (flow_any _ _).mono ?_; rintro e w' ⟨rfl, rfl⟩; first | rw [e2.out] | rw [e3.out])
                go_ret
                exact ⟨ret_int (L2.out.symm.trans hFk.out), hB.trans (hBm.mono hB.size)⟩
            · have e2 := Lib.hid (betw_false q2)
              replace L2 := Lib.hid (L2 (fun h => q2 h.1))
              clear L3 L4 q2
              go_wp2_with (go_at_call 42; refine (flow_any _ _).mono ?_; rintro e w' ⟨rfl, rfl⟩; rw [e2.out])
              go_ret
              exact ⟨ret_int (L2.out.symm.trans hFk.out), hB.trans (hBm.mono hB.size)⟩
          · replace L1 := Lib.hid (L1 q1)
            clear L2 L3 L4
            rcases (by omega : p < -1 ∨ (-1 ≤ p ∧ (k : Int) ≤ p)) with q2 | ⟨q2, q3⟩
            all_goals
              clear q1
              go_wp2
              go_ret
              exact ⟨ret_int (L1.out.symm.trans hFk.out), hB.trans (hBm.mono hB.size)⟩
        · have hen := Lib.hid (ckS_end (ns := ns) (k := k) (by omega))
          go_wp2
          go_ret
          exact ⟨ret_int (hen.out.symm.trans hFk.out), hB.trans (hBr.mono hB.size)⟩
  · rw [if_pos h1] at hF
    replace hF := Lib.hid hF
    have e1 := Lib.hid (betw_false h1)
    clear h1 hv1 bP
    go_enter Try.func23, Try.ntmps23
    go_wp2_with (go_at_call 42; refine (flow_any _ _).mono ?_; rintro e w' ⟨rfl, rfl⟩; rw [e1.out])
    go_ret
    exact ⟨ret_int hF.out, hB⟩

set_option maxRecDepth 100000 in
set_option maxHeartbeats 4000000 in
theorem lcheck_any (sup : Int) (v : Value) (ns : List Nd) (w : World) (hv : NdSl w v ns) (hm : ns.length ≤ 9223372036854775807) : Calls Try.prog 13 #[plV sup v] w (IntBelow (ckF sup ns) w) := by
  have hB := (Below.refl w.heap.size w).alloc (Nat.le_refl _) (.cells #[.int .i64 sup, v] 24)
  have bP := BoxC.new w 24 #[.int .i64 sup, v]
  have hv1 := hv.mono hB
  obtain ⟨a, cap, rfl⟩ := hv.len
  clear hv
  obtain ⟨F, hF⟩ : ∃ F, ckF sup ns = F := ⟨_, rfl⟩
  rw [hF]
  unfold ckF at hF
  by_cases h1 : 0 ≤ sup ∧ sup ≤ 1000000000
  · rw [if_neg (by simpa using h1)] at hF
    have e1 := Lib.hid (betw_true h1)
    clear h1
    by_cases h2 : 30 < ns.length
    · rw [if_pos h2] at hF
      replace hF := Lib.hid hF
      clear hv1 bP
      go_enter Try.func13, Try.ntmps13
      go_wp2_with (go_at_call 36; refine (lflow_any _ _).mono ?_; rintro e w' ⟨rfl, rfl⟩; rw [e1.out])
      go_ret
      exact ⟨ret_int hF.out, hB⟩
    · rw [if_neg h2] at hF
      replace hF := Lib.hid hF
      go_enter Try.func13, Try.ntmps13
      go_wp2_with (go_at_call 36; refine (lflow_any _ _).mono ?_; rintro e w' ⟨rfl, rfl⟩; rw [e1.out])
      generalize hW : w.alloc (.cells #[.int .i64 sup, .slice a ns.length cap] 24) = W at hB bP hv1 ⊢
      clear hW
      go_loopw [3] (fun i wr => ∃ k : Nat, k ≤ ns.length ∧ i = .int .i64 k ∧ Hid (ckS ns k = F) ∧ Below W.heap.size W wr) (fun i _ => ns.length - (intOf i).toNat)
      case atStart => exact ⟨0, Nat.zero_le _, rfl, hF, Below.refl _ _⟩
      case round =>
        obtain ⟨k, hk, rfl, hFk, hBr⟩ := hrel
        have p1 := (bP.grown hBr).cell 1 rfl
        by_cases hlt : k < ns.length
        · obtain ⟨b, off, cap', he, hc⟩ := (hv1.mono hBr).at hlt
          cases he
          obtain ⟨c1, c2, c3, c4⟩ := hc k hlt
          have L1 := @ckS_order ns k hlt
          have L2 := @ckS_range ns k hlt
          have L3 := @ckS_form ns k hlt
          have L4 := @ckS_next ns k hlt
          have hki : (k : Int) < (ns.length : Int) := by omega
          have hBm := hBr.trans (((Below.refl wr.heap.size wr).alloc (Nat.le_refl _) (.cells (ndC (nd ns k)) 42)).mono hBr.size)
          clear hc hv1 bP
          generalize nd ns k = x at c1 c2 c3 c4 L1 L2 L3 L4 hBm
          obtain ⟨p, m, c, l⟩ := x
          simp only at c1 c2 c3 c4 L1 L2 L3 L4 hBm
          unfold NdR at L2 L3 L4
          simp only at L2 L3 L4
          by_cases q1 : -1 ≤ p ∧ p < k
          · replace L2 := L2 q1
            replace L3 := L3 q1
            replace L4 := L4 q1
            obtain ⟨q11, q12⟩ := q1
            clear L1
            by_cases q2 : 0 ≤ m ∧ m ≤ 1000000000
            · have e2 := Lib.hid (betw_true q2)
              by_cases q3 : 0 ≤ c ∧ c ≤ 1000000000
              · have e3 := Lib.hid (betw_true q3)
                by_cases q4 : 0 ≤ l ∧ l ≤ 1000000000
                · have e4 := Lib.hid (betw_true q4)
                  replace L3 := L3 ⟨q2, q3, q4⟩
                  replace L4 := L4 ⟨q2, q3, q4⟩
                  clear L2 q2 q3 q4
                  by_cases q5 : c < l
                  · replace L3 := Lib.hid (L3 q5)
                    clear L4
                    go_wp2_with (go_at_call 36; refine (lflow_any _ _).mono ?_; rintro e w' ⟨rfl, rfl⟩; first | rw [e2.out] | rw [e3.out] | rw [e4.out])
                    go_ret
                    exact ⟨ret_int (L3.out.symm.trans hFk.out), hB.trans (hBm.mono hB.size)⟩
                  · replace L4 := Lib.hid (L4 q5)
                    clear L3
                    go_wp2_with (go_at_call 36; refine (lflow_any _ _).mono ?_; rintro e w' ⟨rfl, rfl⟩; first | rw [e2.out] | rw [e3.out] | rw [e4.out])
                    go_roundw
                    case rel => exact ⟨k + 1, by omega, by go_num, L4.out.symm.trans hFk.out, hBm⟩
                    case measure => simp [intOf]; omega
                · have e4 := Lib.hid (betw_false q4)
                  replace L2 := Lib.hid (L2 (fun h => q4 h.2.2))
                  clear L3 L4 q2 q3 q4
                  go_wp2_with (go_at_call 36; refine (lflow_any _ _).mono ?_; rintro e w' ⟨rfl, rfl⟩; first | rw [e2.out] | rw [e3.out] | rw [e4.out])
                  go_ret
                  exact ⟨ret_int (L2.out.symm.trans hFk.out), hB.trans (hBm.mono hB.size)⟩
              · have e3 := Lib.hid (betw_false q3)
                replace L2 := Lib.hid (L2 (fun h => q3 h.2.1))
                clear L3 L4 q2 q3
                go_wp2_with (go_at_call 36; refine (lflow_any _ _).mono ?_; rintro e w' ⟨rfl, rfl⟩; first | rw [e2.out] | rw [e3.out])
                go_ret
                exact ⟨ret_int (L2.out.symm.trans hFk.out), hB.trans (hBm.mono hB.size)⟩
            · have e2 := Lib.hid (betw_false q2)
              replace L2 := Lib.hid (L2 (fun h => q2 h.1))
              clear L3 L4 q2
              go_wp2_with (go_at_call 36; refine (lflow_any _ _).mono ?_; rintro e w' ⟨rfl, rfl⟩; rw [e2.out])
              go_ret
              exact ⟨ret_int (L2.out.symm.trans hFk.out), hB.trans (hBm.mono hB.size)⟩
          · replace L1 := Lib.hid (L1 q1)
            clear L2 L3 L4
            rcases (by omega : p < -1 ∨ (-1 ≤ p ∧ (k : Int) ≤ p)) with q2 | ⟨q2, q3⟩
            all_goals
              clear q1
              go_wp2
              go_ret
              exact ⟨ret_int (L1.out.symm.trans hFk.out), hB.trans (hBm.mono hB.size)⟩
        · have hen := Lib.hid (ckS_end (ns := ns) (k := k) (by omega))
          go_wp2
          go_ret
          exact ⟨ret_int (hen.out.symm.trans hFk.out), hB.trans (hBr.mono hB.size)⟩
  · rw [if_pos h1] at hF
    replace hF := Lib.hid hF
    have e1 := Lib.hid (betw_false h1)
    clear h1 hv1 bP
    go_enter Try.func13, Try.ntmps13
    go_wp2_with (go_at_call 36; refine (lflow_any _ _).mono ?_; rintro e w' ⟨rfl, rfl⟩; rw [e1.out])
    go_ret
    exact ⟨ret_int hF.out, hB⟩
end Go.Proofs.Ytfefocgekmeahaa
