/- Contracts of both checks of a table. Conditions: lists of at most 2^62 elements. -/
import Derived.Test.YtbfldhmpgealpaaW3
import Derived.Test.YtbfldhmpgealpaaContains
namespace Go.Proofs.Ytbfldhmpgealpaa
open Go.RowKit

/-- the k-th list -/
def nths (xss : List (List Int)) (k : Nat) : List Int := xss[k]?.getD []
/-- v reads in w as a list of lists of ints, each in a cell of its own -/
def SlSl (w : World) (v : Value) (xss : List (List Int)) : Prop :=
  ((∃ a cap, v = .slice a 0 cap) ∧ xss = []) ∨ ∃ b off cap, v = .slice (some ⟨b, off, none⟩) xss.length cap ∧
    ∀ i, i < xss.length → ∃ u, w.cell? ⟨b, off + i, none⟩ = some u ∧ NumSl .i64 w u (nths xss i)
theorem SlSl.len {w : World} {v : Value} {xss : List (List Int)} (h : SlSl w v xss) : ∃ a cap, v = .slice a xss.length cap := by
  rcases h with ⟨⟨a, cap, rfl⟩, rfl⟩ | ⟨b, off, cap, rfl, _⟩
  · exact ⟨a, cap, rfl⟩
  · exact ⟨some ⟨b, off, none⟩, cap, rfl⟩
theorem SlSl.mono {w w' : World} {v : Value} {xss : List (List Int)} (h : SlSl w v xss) (hb : Below w.heap.size w w') : SlSl w' v xss := by
  rcases h with h | ⟨b, off, cap, rfl, hc⟩
  · exact .inl h
  · refine .inr ⟨b, off, cap, rfl, fun i hi => ?_⟩
    obtain ⟨u, h1, h2⟩ := hc i hi
    exact ⟨u, (hb.cell (p := ⟨b, _, none⟩) (lt_of_cell h1)).trans h1, h2.mono hb⟩
theorem SlSl.at {w : World} {v : Value} {xss : List (List Int)} (h : SlSl w v xss) {k : Nat} (hk : k < xss.length) : ∃ b off cap, v = .slice (some ⟨b, off, none⟩) xss.length cap ∧
    ∀ i, i < xss.length → ∃ u, w.cell? ⟨b, off + i, none⟩ = some u ∧ NumSl .i64 w u (nths xss i) := by
  rcases h with ⟨_, rfl⟩ | h
  · simp at hk
  · exact h

/-- a table: the loudness of the stops, and the levels of the box, of each division -/
structure Tab where
  s : List (List Int)
  b : List (List Int)
/-- no list is too long for a machine -/
structure Tab.Fit (T : Tab) : Prop where
  s : T.s.length ≤ 4611686018427387904
  b : T.b.length ≤ 4611686018427387904
  ss : ∀ k, (nths T.s k).length ≤ 4611686018427387904
  bs : ∀ k, (nths T.b k).length ≤ 140737488355328

def loudP (n : Int) : Bool := !betw n 0 1000000
def tabB (T : Tab) (k : Nat) (_ : Unit) : Int ⊕ Unit :=
  if 60 < (nths T.s k).length then .inl 4 else if anyF loudP (nths T.s k) = true then .inl 3
  else if (nths T.b k).length = 0 then .inr () else if chkF (nths T.b k) ≠ 0 then .inl (chkF (nths T.b k)) else .inr ()
def tabS (T : Tab) (k : Nat) : Int := scan T.s.length (tabB T) (fun _ => 0) k ()
/-- the error of a table -/
def tabF (T : Tab) : Int := if 8 < T.s.length then 4 else if T.b.length ≠ T.s.length then 5 else tabS T 0

theorem tabS_long {T : Tab} {k : Nat} (h : k < T.s.length) (h1 : 60 < (nths T.s k).length) : tabS T k = 4 := scan_inl h (by unfold tabB; rw [if_pos h1])
theorem tabS_bad {T : Tab} {k : Nat} (h : k < T.s.length) (h1 : ¬ 60 < (nths T.s k).length) (h2 : anyF loudP (nths T.s k) = true) : tabS T k = 3 := scan_inl h (by unfold tabB; rw [if_neg h1, if_pos h2])
theorem tabS_none {T : Tab} {k : Nat} (h : k < T.s.length) (h1 : ¬ 60 < (nths T.s k).length) (h2 : anyF loudP (nths T.s k) = false) (h3 : (nths T.b k).length = 0) : tabS T k = tabS T (k + 1) :=
  scan_inr h (by unfold tabB; rw [if_neg h1, if_neg (by rw [h2]; simp), if_pos h3])
theorem tabS_box {T : Tab} {k : Nat} (h : k < T.s.length) (h1 : ¬ 60 < (nths T.s k).length) (h2 : anyF loudP (nths T.s k) = false) (h3 : (nths T.b k).length ≠ 0) (h4 : chkF (nths T.b k) ≠ 0) : tabS T k = chkF (nths T.b k) :=
  scan_inl h (by unfold tabB; rw [if_neg h1, if_neg (by rw [h2]; simp), if_neg h3, if_pos h4])
theorem tabS_next {T : Tab} {k : Nat} (h : k < T.s.length) (h1 : ¬ 60 < (nths T.s k).length) (h2 : anyF loudP (nths T.s k) = false) (h3 : (nths T.b k).length ≠ 0) (h4 : chkF (nths T.b k) = 0) : tabS T k = tabS T (k + 1) :=
  scan_inr h (by unfold tabB; rw [if_neg h1, if_neg (by rw [h2]; simp), if_neg h3, if_neg (by simpa using h4)])
theorem tabS_end {T : Tab} {k : Nat} (h : T.s.length ≤ k) : tabS T k = 0 := scan_ge h

set_option maxHeartbeats 400000 in
theorem loud1_any (n : Int) (w : World) : Calls Try.prog 41 #[.int .i64 n] w (BoolBelow (loudP n) w) := by
  go_enter Try.func41, Try.ntmps41
  go_wp2_with (go_at_call 38; refine (within_any _ _ _ _).mono ?_; rintro e w' ⟨rfl, rfl⟩)
  go_ret
  exact ⟨rfl, Below.refl _ _⟩

abbrev tabV (v u : Value) : Value := .agg #[v, u]

set_option maxHeartbeats 4000000 in
theorem CheckTable_any (v u : Value) (T : Tab) (w : World) (hv : SlSl w v T.s) (hu : SlSl w u T.b) (hT : T.Fit) :
    Calls Try.prog 20 #[tabV v u] w (IntBelow (tabF T) w) := by
  have hB := (Below.refl w.heap.size w).alloc (Nat.le_refl _) (.cells #[v, u] 35)
  have bP := BoxC.new w 35 #[v, u]
  have hv1 := hv.mono hB
  have hu1 := hu.mono hB
  obtain ⟨a, cap, rfl⟩ := hv.len
  obtain ⟨a2, cap2, rfl⟩ := hu.len
  have hTs := hT.s
  have hTb := hT.b
  clear hv hu
  obtain ⟨F, hF⟩ : ∃ F, tabF T = F := ⟨_, rfl⟩
  rw [hF]
  unfold tabF at hF
  by_cases h1 : 8 < T.s.length
  · rw [if_pos h1] at hF
    replace hF := Lib.hid hF
    go_enter Try.func20, Try.ntmps20
    go_wp2
    go_ret
    exact ⟨ret_int hF.out, hB⟩
  · rw [if_neg h1] at hF
    by_cases h2 : T.b.length = T.s.length
    · rw [if_neg (by simpa using h2)] at hF
      have h2' : ((T.b.length : Int) != (T.s.length : Int)) = false := by simp [h2]
      have h2'' : (T.b.length : Int) ≤ T.s.length ∧ (T.s.length : Int) ≤ T.b.length := by omega
      obtain ⟨g1, g2⟩ := h2''
      replace hF := Lib.hid hF
      replace h2 := Lib.hid h2
      go_enter Try.func20, Try.ntmps20
      go_wp2
      generalize hW : w.alloc (.cells #[.slice a T.s.length cap, .slice a2 T.b.length cap2] 35) = W at hB bP hv1 hu1 ⊢
      clear hW
      go_loopw [22] (fun i wr => ∃ k : Nat, k ≤ T.s.length ∧ i = .int .i64 k ∧ Hid (tabS T k = F) ∧ Below W.heap.size W wr) (fun i _ => T.s.length - (intOf i).toNat)
      case atStart => exact ⟨0, Nat.zero_le _, rfl, hF, Below.refl _ _⟩
      case round =>
        obtain ⟨k, hk, rfl, hFk, hBr⟩ := hrel
        by_cases hlt : k < T.s.length
        · obtain ⟨b, off, cap', he, hc⟩ := (hv1.mono hBr).at hlt
          cases he
          obtain ⟨x, cx, hx⟩ := hc k hlt
          have hltb : k < T.b.length := by omega
          obtain ⟨b2, off2, cap2', he2, hc2⟩ := (hu1.mono hBr).at hltb
          cases he2
          obtain ⟨y, cy, hy⟩ := hc2 k hltb
          have bPr := bP.grown hBr
          have p0 := bPr.cell 0 rfl
          have p1 := bPr.cell 1 rfl
          have hs1 := hT.ss k
          have hs2 := hT.bs k
          have L1 := @tabS_long T k hlt
          have L2 := @tabS_bad T k hlt
          have L3 := @tabS_none T k hlt
          have L4 := @tabS_box T k hlt
          have L5 := @tabS_next T k hlt
          clear hc hc2 bP hv1 hu1
          obtain ⟨ax, capx, rfl⟩ := hx.len
          obtain ⟨ay, capy, rfl⟩ := hy.len
          by_cases q1 : 60 < (nths T.s k).length
          · replace L1 := Lib.hid (L1 q1)
            clear L2 L3 L4 L5
            go_wp2
            go_ret
            exact ⟨ret_int (L1.out.symm.trans hFk.out), hB.trans (hBr.mono hB.size)⟩
          · replace L2 := L2 q1
            replace L3 := L3 q1
            replace L4 := L4 q1
            replace L5 := L5 q1
            have hcon := containsFunc_any .i64 41 #[] loudP _ _ wr (fun n w' _ => loud1_any n w') (fun _ _ => rfl) hx hs1
            clear L1
            cases q2 : anyF loudP (nths T.s k)
            · replace L3 := L3 q2; replace L4 := L4 q2; replace L5 := L5 q2
              rw [q2] at hcon
              clear L2 q2
              replace hcon := Lib.hid hcon
              by_cases q3 : (nths T.b k).length = 0
              · replace L3 := Lib.hid (L3 q3)
                clear L4 L5
                have q3' : (((nths T.b k).length : Int) == 0) = true := by simp [q3]
                replace q3 := Lib.hid q3
                go_wp2_with fail
                refine hcon.out.mono ?_
                rintro e w' ⟨rfl, hb⟩
                have bQ := bPr.grown hb
                have p2 := bQ.cell 1 rfl
                have cy2 := (hb.cell (p := ⟨b2, off2 + k, none⟩) (lt_of_cell cy)).trans cy
                clear cy p0 p1
                go_wp2
                go_roundw
                case rel => exact ⟨k + 1, by omega, by go_num, L3.out.symm.trans hFk.out, hBr.trans (hb.mono hBr.size)⟩
                case measure => simp [intOf]; omega
              · have q3' : (((nths T.b k).length : Int) == 0) = false := by simpa using q3
                replace L4 := L4 q3
                replace L5 := L5 q3
                clear L3
                go_wp2_with fail
                refine hcon.out.mono ?_
                rintro e w' ⟨rfl, hb⟩
                have bQ := bPr.grown hb
                have p2 := bQ.cell 1 rfl
                have cy2 := (hb.cell (p := ⟨b2, off2 + k, none⟩) (lt_of_cell cy)).trans cy
                have hck := Check_any _ _ w' (hy.mono hb) hs2
                clear cy p0 p1
                obtain ⟨d, hd⟩ : ∃ d, chkF (nths T.b k) = d := ⟨_, rfl⟩
                rw [hd] at hck L4 L5
                replace hck := Lib.hid hck
                clear hd
                go_wp2_with fail
                refine hck.out.mono ?_
                rintro e w2 ⟨rfl, hb2⟩
                have hB2 := hBr.trans ((hb.trans (hb2.mono hb.size)).mono hBr.size)
                by_cases q4 : d = 0
                · replace L5 := Lib.hid (L5 q4)
                  clear L4
                  subst q4
                  go_wp2
                  go_roundw
                  case rel => exact ⟨k + 1, by omega, by go_num, L5.out.symm.trans hFk.out, hB2⟩
                  case measure => simp [intOf]; omega
                · replace L4 := Lib.hid (L4 q4)
                  clear L5
                  obtain ⟨q5, q6⟩ := neq_of q4
                  clear q4
                  go_wp2
                  go_ret
                  exact ⟨ret_int (L4.out.symm.trans hFk.out), hB.trans (hB2.mono hB.size)⟩
            · replace L2 := Lib.hid (L2 q2)
              rw [q2] at hcon
              clear L3 L4 L5 q2
              replace hcon := Lib.hid hcon
              go_wp2_with fail
              refine hcon.out.mono ?_
              rintro e w' ⟨rfl, hb⟩
              go_wp2
              go_ret
              exact ⟨ret_int (L2.out.symm.trans hFk.out), hB.trans ((hBr.trans (hb.mono hBr.size)).mono hB.size)⟩
        · have hen := Lib.hid (tabS_end (T := T) (k := k) (by omega))
          go_wp2
          go_ret
          exact ⟨ret_int (hen.out.symm.trans hFk.out), hB.trans (hBr.mono hB.size)⟩
    · rw [if_pos h2] at hF
      have h2' : ((T.b.length : Int) != (T.s.length : Int)) = true := by simp; omega
      replace hF := Lib.hid hF
      go_enter Try.func20, Try.ntmps20
      go_wp2
      go_ret
      exact ⟨ret_int hF.out, hB⟩
end Go.Proofs.Ytbfldhmpgealpaa
