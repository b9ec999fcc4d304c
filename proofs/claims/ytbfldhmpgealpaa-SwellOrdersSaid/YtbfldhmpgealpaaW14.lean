/- The contract of Shake, and that of known: the chapter's examples hold. Conditions: none. -/
import Derived.Test.YtbfldhmpgealpaaW1
import Derived.Test.YtbfldhmpgealpaaW3
import Derived.Test.YtbfldhmpgealpaaW7
import Derived.Test.YtbfldhmpgealpaaW13
namespace Go.Proofs.Ytbfldhmpgealpaa
open Go.RowKit

def ShakeF (p d f t : Int) : Int × Int := if tremF p d f ≠ 0 then (0, tremF p d f) else if ¬ (-1000000000 ≤ t ∧ t ≤ 1000000000) then (0, 3) else (shakeF p d f t, 0)

set_option maxHeartbeats 1000000 in
theorem Shake_any (p d f t : Int) (w : World) :
    Calls Try.prog 14 #[trV p d f, .int .i64 t] w fun e w' => e = .returned (.tuple #[.int .i64 (ShakeF p d f t).1, .int .i64 (ShakeF p d f t).2]) ∧ Below w.heap.size w w' := by
  have hB := (Below.refl w.heap.size w).alloc (Nat.le_refl _) (.cells #[.int .i64 p, .int .i64 d, .int .i64 f] 23)
  have bP := BoxC.new w 23 #[.int .i64 p, .int .i64 d, .int .i64 f]
  obtain ⟨F, hF⟩ : ∃ F, ShakeF p d f t = F := ⟨_, rfl⟩
  rw [hF]
  unfold ShakeF at hF
  have hck := CheckTremulant_any p d f (w.alloc (.cells #[.int .i64 p, .int .i64 d, .int .i64 f] 23))
  obtain ⟨q, hq⟩ : ∃ q, tremF p d f = q := ⟨_, rfl⟩
  rw [hq] at hF hck
  replace hck := Lib.hid hck
  by_cases h0 : q = 0
  · subst h0
    have hok := trOk_of hq
    clear hq
    rw [if_neg (by simp)] at hF
    by_cases h1 : -1000000000 ≤ t ∧ t ≤ 1000000000
    · have e1 := Lib.hid (betw_true h1)
      rw [if_neg (by simpa using h1)] at hF
      subst hF
      obtain ⟨h2, h3⟩ := h1
      go_enter Try.func14, Try.ntmps14
      go_wp2_with fail
      refine hck.out.mono ?_
      rintro e w1 ⟨rfl, hb⟩
      have c0 := (bP.grown hb).cell 0 rfl
      have c1 := (bP.grown hb).cell 1 rfl
      have c2 := (bP.grown hb).cell 2 rfl
      have hsh := Lib.hid (shake_any p d f t hok w1 (by omega) (by omega))
      go_wp2_with (first | (go_at_call 38; refine (within_any _ _ _ _).mono ?_; rintro e w' ⟨rfl, rfl⟩; rw [e1.out]) | (go_at_call 39; refine hsh.out.mono ?_; rintro e w2 ⟨rfl, hb2⟩))
      go_ret2
      exact ⟨rfl, hB.trans ((hb.trans (hb2.mono hb.size)).mono hB.size)⟩
    · have e1 := Lib.hid (betw_false h1)
      rw [if_pos h1] at hF
      subst hF
      clear h1
      go_enter Try.func14, Try.ntmps14
      go_wp2_with fail
      refine hck.out.mono ?_
      rintro e w1 ⟨rfl, hb⟩
      go_wp2_with (go_at_call 38; refine (within_any _ _ _ _).mono ?_; rintro e w' ⟨rfl, rfl⟩; rw [e1.out])
      go_ret2
      exact ⟨rfl, hB.trans (hb.mono hB.size)⟩
  · obtain ⟨g1, g2⟩ := neq_of h0
    rw [if_pos h0] at hF
    subst hF
    clear hq h0
    go_enter Try.func14, Try.ntmps14
    go_wp2_with fail
    refine hck.out.mono ?_
    rintro e w1 ⟨rfl, hb⟩
    clear hck
    go_wp2
    go_ret2
    exact ⟨rfl, hB.trans (hb.mono hB.size)⟩

theorem numSl_box {K : IntKind} {w : World} {B : Nat} {t : TypeId} {cs : Array Value} {xs : List Int} {cap : Nat} (h : BoxC w B t cs) (hc : cs = (xs.map (Value.int K)).toArray) : NumSl K w (.slice (some ⟨B, 0, none⟩) xs.length cap) xs := by
  subst hc
  refine .inr ⟨B, 0, cap, rfl, fun i hi => ?_⟩
  rw [Nat.zero_add]
  exact h.cell i (by simp [nth, hi])

def levels : List Int := [100, 300, 600, 1000]
def BoxPost (w : World) (e : Ending) (w' : World) : Prop := ∃ B, e = .returned (.agg #[.slice (some ⟨B, 0, none⟩) 4 4]) ∧ BoxC w' B 3 #[.int .i64 100, .int .i64 300, .int .i64 600, .int .i64 1000] ∧ Below w.heap.size w w'

set_option maxHeartbeats 400000 in
theorem box_any (w : World) : Calls Try.prog 37 #[] w (BoxPost w) := by
  go_enter Try.func37, Try.ntmps37
  go_wp2
  have hB : Below w.heap.size w ((w.alloc (.cells #[.slice (some ⟨w.heap.size + 1, 0, none⟩) 4 4] 49)).alloc (.cells #[.int .i64 100, .int .i64 300, .int .i64 600, .int .i64 1000] 3)) := ((Below.refl _ w).alloc (Nat.le_refl _) _).alloc (by simp) _
  have bN := BoxC.new (w.alloc (.cells #[.slice (some ⟨w.heap.size + 1, 0, none⟩) 4 4] 49)) 3 #[.int .i64 100, .int .i64 300, .int .i64 600, .int .i64 1000]
  simp only [World.size_alloc] at bN
  exact bodyPost_ret (v := .agg #[.slice (some ⟨w.heap.size + 1, 0, none⟩) 4 4]) (by simp [results, Try.results37, go_sem]) rfl ⟨_, rfl, bN, hB⟩

def two : List Mv := [⟨10, 3, 5⟩, ⟨22, 0, 2⟩]
def tab : Tab := ⟨[[100, 200], [50]], [levels, []]⟩
theorem k1 : StageF levels two 22 = (2, 0) := by decide +kernel
theorem k2 : StageF levels two 24 = (1, 0) := by decide +kernel
theorem k3 : nearF levels 451 = (2, 0) := by decide +kernel
theorem k4 : ShakeF 8 10 0 3 = (5, 0) := by decide +kernel
theorem k5 : LoudF tab [3, 1] [2, 0] = (230, 0) := by decide +kernel

theorem mvSl_two {w : World} {B : Nat} {t : TypeId} (h : BoxC w B t #[.int .i64 10, .int .i64 3, .int .i64 5, .int .i64 22, .int .i64 0, .int .i64 2]) : MvSl w (.slice (some ⟨B, 0, none⟩) 2 2) two := by
  refine .inr ⟨B, 0, 2, rfl, fun i hi => ?_, by decide⟩
  match i, hi with
  | 0, _ => exact ⟨h.cell 0 rfl, h.cell 1 rfl, h.cell 2 rfl⟩
  | 1, _ => exact ⟨h.cell 3 rfl, h.cell 4 rfl, h.cell 5 rfl⟩
  | i + 2, hi => exact absurd hi (by simp [two])

theorem tab_fit : tab.Fit := by
  refine ⟨by decide, by decide, fun k => ?_, fun k => ?_⟩
  · match k with
    | 0 => decide
    | 1 => decide
    | k + 2 => simp [nths, tab]
  · match k with
    | 0 => decide
    | 1 => decide
    | k + 2 => simp [nths, tab]

def TwoBelow (a b : Int) (w : World) (e : Ending) (w' : World) : Prop := e = .returned (.tuple #[.int .i64 a, .int .i64 b]) ∧ Below w.heap.size w w'

set_option maxRecDepth 100000 in
set_option maxHeartbeats 4000000 in
theorem known_any (w : World) : Calls Try.prog 12 #[] w (BoolBelow true w) := by
  have hS1 : ∀ W v v2, NumSl .i64 W v levels → MvSl W v2 two → Calls Try.prog 32 #[.agg #[v], v2, .int .i64 22] W (TwoBelow 2 0 W) := fun W v v2 h1 h2 => by
    have := Stage_any v levels v2 two 22 W h1 (by decide) h2 (by decide)
    rw [k1] at this
    exact this
  have hS2 : ∀ W v v2, NumSl .i64 W v levels → MvSl W v2 two → Calls Try.prog 32 #[.agg #[v], v2, .int .i64 24] W (TwoBelow 1 0 W) := fun W v v2 h1 h2 => by
    have := Stage_any v levels v2 two 24 W h1 (by decide) h2 (by decide)
    rw [k2] at this
    exact this
  have hS3 : ∀ W v, NumSl .i64 W v levels → Calls Try.prog 27 #[.agg #[v], .int .i64 451] W (TwoBelow 2 0 W) := fun W v h1 => by
    have := Nearest_any v levels 451 W h1 (by decide)
    rw [k3] at this
    exact this
  have hS4 : ∀ W, Calls Try.prog 14 #[.agg #[.int .i64 8, .int .i64 10, .int .i64 0], .int .i64 3] W (TwoBelow 5 0 W) := fun W => by
    have := Shake_any 8 10 0 3 W
    rw [k4] at this
    exact this
  have hS5 : ∀ W v u x y, SlSl W v tab.s → SlSl W u tab.b → NumSl .u64 W x [3, 1] → NumSl .i64 W y [2, 0] → Calls Try.prog 23 #[.agg #[v, u], .agg #[x, .int .u64 0, .int .u64 0], y] W (TwoBelow 230 0 W) := fun W v u x y h1 h2 h3 h4 => by
    have := Loudness_any v u x y 0 0 tab [3, 1] [2, 0] W h1 h2 tab_fit h3 (by decide) h4 (by decide)
    rw [k5] at this
    exact this
  replace hS1 := Lib.hid hS1; replace hS2 := Lib.hid hS2; replace hS3 := Lib.hid hS3; replace hS4 := Lib.hid hS4; replace hS5 := Lib.hid hS5
  go_enter Try.func12, Try.ntmps12
  go_wp2_with fail
  have bM := BoxC.new w 64 #[.int .i64 10, .int .i64 3, .int .i64 5, .int .i64 22, .int .i64 0, .int .i64 2]
  have hB := (Below.refl w.heap.size w).alloc (Nat.le_refl _) (.cells #[.int .i64 10, .int .i64 3, .int .i64 5, .int .i64 22, .int .i64 0, .int .i64 2] 64)
  refine (box_any _).mono ?_
  rintro e w1 ⟨B1, rfl, b1, hb1⟩
  have hB1 := hB.trans (hb1.mono hB.size)
  have bM1 := bM.grown hb1
  clear hB hb1 bM
  go_wp2_with fail
  refine (hS1.out _ _ _ (numSl_box b1 rfl) (mvSl_two bM1)).mono ?_
  rintro e w2 ⟨rfl, hb2⟩
  have hB2 := hB1.trans (hb2.mono hB1.size)
  have bM2 := bM1.grown hb2
  clear hB1 hb2 bM1 b1 hS1
  go_wp2_with fail
  refine (box_any _).mono ?_
  rintro e w3 ⟨B3, rfl, b3, hb3⟩
  have hB3 := hB2.trans (hb3.mono hB2.size)
  have bM3 := bM2.grown hb3
  clear hB2 hb3 bM2
  go_wp2_with fail
  refine (hS2.out _ _ _ (numSl_box b3 rfl) (mvSl_two bM3)).mono ?_
  rintro e w4 ⟨rfl, hb4⟩
  have hB4 := hB3.trans (hb4.mono hB3.size)
  clear hB3 hb4 bM3 b3 hS2
  go_wp2_with fail
  refine (box_any _).mono ?_
  rintro e w5 ⟨B5, rfl, b5, hb5⟩
  have hB5 := hB4.trans (hb5.mono hB4.size)
  clear hB4 hb5
  go_wp2_with fail
  refine (hS3.out _ _ (numSl_box b5 rfl)).mono ?_
  rintro e w6 ⟨rfl, hb6⟩
  have hB6 := hB5.trans (hb6.mono hB5.size)
  clear hB5 hb6 b5 hS3
  go_wp2_with fail
  refine (hS4.out _).mono ?_
  rintro e w7 ⟨rfl, hb7⟩
  have hB7 := hB6.trans (hb7.mono hB6.size)
  clear hB6 hb7 hS4
  go_wp2_with fail
  have hbw : Below w7.heap.size w7 (((w7.alloc (.cells #[.int .i64 100, .int .i64 200] 3)).alloc (.cells #[.int .i64 50] 3)).alloc (.cells #[.slice (some ⟨w7.heap.size, 0, none⟩) 2 2, .slice (some ⟨w7.heap.size + 1, 0, none⟩) 1 1] 40)) :=
    (((Below.refl _ w7).alloc (Nat.le_refl _) _).alloc (by simp) _).alloc (by simp; omega) _
  have a1 := ((BoxC.new w7 3 #[.int .i64 100, .int .i64 200]).alloc (.cells #[.int .i64 50] 3)).alloc (.cells #[.slice (some ⟨w7.heap.size, 0, none⟩) 2 2, .slice (some ⟨w7.heap.size + 1, 0, none⟩) 1 1] 40)
  have a2 := (BoxC.new (w7.alloc (.cells #[.int .i64 100, .int .i64 200] 3)) 3 #[.int .i64 50]).alloc (.cells #[.slice (some ⟨w7.heap.size, 0, none⟩) 2 2, .slice (some ⟨w7.heap.size + 1, 0, none⟩) 1 1] 40)
  have a3 := BoxC.new ((w7.alloc (.cells #[.int .i64 100, .int .i64 200] 3)).alloc (.cells #[.int .i64 50] 3)) 40 #[.slice (some ⟨w7.heap.size, 0, none⟩) 2 2, .slice (some ⟨w7.heap.size + 1, 0, none⟩) 1 1]
  simp only [World.size_alloc] at a2 a3
  refine (box_any _).mono ?_
  rintro e w8 ⟨B8, rfl, b8, hb8⟩
  replace a1 := a1.grown hb8
  replace a2 := a2.grown hb8
  replace a3 := a3.grown hb8
  have hB8 := hB7.trans ((hbw.trans (hb8.mono hbw.size)).mono hB7.size)
  clear hbw hb8 hB7
  go_wp2_with fail
  have hbw : Below w8.heap.size w8 (((w8.alloc (.cells #[.slice (some ⟨B8, 0, none⟩) 4 4, .slice none 0 0] 49)).alloc (.cells #[.int .u64 3, .int .u64 1] 37)).alloc (.cells #[.int .i64 2, .int .i64 0] 3)) :=
    (((Below.refl _ w8).alloc (Nat.le_refl _) _).alloc (by simp) _).alloc (by simp; omega) _
  replace a1 := a1.grown hbw
  replace a2 := a2.grown hbw
  replace a3 := a3.grown hbw
  replace b8 := b8.grown hbw
  have a4 := ((BoxC.new w8 49 #[.slice (some ⟨B8, 0, none⟩) 4 4, .slice none 0 0]).alloc (.cells #[.int .u64 3, .int .u64 1] 37)).alloc (.cells #[.int .i64 2, .int .i64 0] 3)
  have a5 := (BoxC.new (w8.alloc (.cells #[.slice (some ⟨B8, 0, none⟩) 4 4, .slice none 0 0] 49)) 37 #[.int .u64 3, .int .u64 1]).alloc (.cells #[.int .i64 2, .int .i64 0] 3)
  have a6 := BoxC.new ((w8.alloc (.cells #[.slice (some ⟨B8, 0, none⟩) 4 4, .slice none 0 0] 49)).alloc (.cells #[.int .u64 3, .int .u64 1] 37)) 3 #[.int .i64 2, .int .i64 0]
  simp only [World.size_alloc] at a5 a6
  refine (hS5.out _ _ _ _ _ ?g1 ?g2 (numSl_box a5 rfl) (numSl_box a6 rfl)).mono ?_
  case g1 =>
    refine .inr ⟨_, 0, _, rfl, fun i hi => ?_⟩
    match i, hi with
    | 0, _ => exact ⟨_, a3.cell 0 rfl, numSl_box (xs := [100, 200]) a1 rfl⟩
    | 1, _ => exact ⟨_, a3.cell 1 rfl, numSl_box (xs := [50]) a2 rfl⟩
    | i + 2, hi => exact absurd hi (by simp [tab])
  case g2 =>
    refine .inr ⟨_, 0, _, rfl, fun i hi => ?_⟩
    match i, hi with
    | 0, _ => exact ⟨_, a4.cell 0 rfl, numSl_box (xs := levels) b8 rfl⟩
    | 1, _ => exact ⟨_, a4.cell 1 rfl, NumSl.nil⟩
    | i + 2, hi => exact absurd hi (by simp [tab])
  rintro e w9 ⟨rfl, hb9⟩
  have hB9 := hB8.trans ((hbw.trans (hb9.mono hbw.size)).mono hB8.size)
  clear hB8 hbw hb9 a1 a2 a3 a4 a5 a6 b8 hS5
  go_wp2
  go_ret
  exact ⟨rfl, hB9⟩
end Go.Proofs.Ytbfldhmpgealpaa
