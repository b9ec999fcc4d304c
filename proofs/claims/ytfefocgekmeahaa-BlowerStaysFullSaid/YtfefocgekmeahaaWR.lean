/- The region of step that copies the levels and makes two slices, in whatever order. Conditions: at most 30 nodes. -/
import Derived.Test.YtfefocgekmeahaaW5
import Derived.Deep.RegionHeld3
namespace Go.Proofs.Ytfefocgekmeahaa
open Go.RowKit Go.Shelf

section
variable {W X Y : World} {p q : Addr} {u v : Value}
theorem heldS_b (h : X.cell? p = some u ∧ X.cell? q = some v ∧ Below W.heap.size W X) : Below W.heap.size W X := h.2.2
theorem heldS_below (h : X.cell? p = some u ∧ X.cell? q = some v ∧ Below W.heap.size W X) (hb : Below X.heap.size X Y) : Y.cell? p = some u ∧ Y.cell? q = some v ∧ Below W.heap.size W Y :=
  ⟨(hb.cell (lt_of_cell h.1)).trans h.1, (hb.cell (lt_of_cell h.2.1)).trans h.2.1, h.2.2.trans (hb.mono h.2.2.size)⟩
theorem heldS_alloc (o : Obj) (h : X.cell? p = some u ∧ X.cell? q = some v ∧ Below W.heap.size W X) : (X.alloc o).cell? p = some u ∧ (X.alloc o).cell? q = some v ∧ Below W.heap.size W (X.alloc o) :=
  heldS_below h ((Below.refl _ X).alloc (Nat.le_refl _) o)
theorem heldS_allocD (o : Obj) (h : X.drew.cell? p = some u ∧ X.drew.cell? q = some v ∧ Below W.heap.size W X.drew) : (X.alloc o).drew.cell? p = some u ∧ (X.alloc o).drew.cell? q = some v ∧ Below W.heap.size W (X.alloc o).drew :=
  heldS_below h ((Below.refl _ X.drew).alloc (Nat.le_refl _) o)
theorem alloc_new {o : Obj} {k : Nat} (h : k = X.heap.size) : (X.alloc o).heap[k]? = some o := by subst h; exact World.alloc_heap_new X o
theorem alloc_old {o r : Obj} {k : Nat} (h : X.heap[k]? = some r) : (X.alloc o).heap[k]? = some r := (Below.heap_alloc X o k (heap_lt h)).trans h
theorem drew_old {r : Obj} {k : Nat} (h : X.heap[k]? = some r) : X.drew.heap[k]? = some r := h
theorem set_old {r : Obj} {k : Nat} (hk : k ≠ p.block) (h : X.heap[k]? = some r) : (X.setCell p u).heap[k]? = some r := (Below.heap_setCell X p u k hk).trans h
theorem below_old {r : Obj} {k : Nat} (hb : Below X.heap.size X Y) (h : X.heap[k]? = some r) : Y.heap[k]? = some r := (hb.block k (heap_lt h)).trans h
theorem RowG.low {base base' g n : Nat} {xs : List Int} (h : RowG base g v n xs X) (hb : base' ≤ base) : RowG base' g v n xs X := by
  obtain ⟨q1, q2⟩ := h
  refine ⟨q1, fun hn => ?_⟩
  obtain ⟨cap, q3, q4, q5⟩ := q2 hn
  refine ⟨cap, q3, q4, ?_⟩
  rcases q5 with q5 | ⟨g', cap', cur, r1, r2, r3⟩
  · exact .inl q5
  · exact .inr ⟨g', cap', cur, r1, by omega, r3⟩
theorem RowG.alloc {base g n : Nat} {xs : List Int} (h : RowG base g v n xs X) (o : Obj) : RowG base g v n xs (X.alloc o) := h.grown ((Below.refl _ X).alloc (Nat.le_refl _) o)
theorem RowG.otherR {base g n : Nat} {xs : List Int} (hne : p.block ≠ g) (h : RowG base g v n xs X) : RowG base g v n xs (X.setCell p u) := h.other (fun _ => hne) u
theorem Below.allocR {N : Nat} {A : World} (hs : N ≤ X.heap.size) (h : Below N A X) (o : Obj) : Below N A (X.alloc o) := h.alloc hs o
theorem Below.setR {N : Nat} {A : World} (hs : N ≤ p.block) (h : Below N A X) : Below N A (X.setCell p u) := h.setCell hs u
theorem rowG_made {base g n : Nat} (hm : n ≤ 30) (hb : base ≤ g) (h : X.heap[g]? = some (.cells (madeCells #[.int .i64 0] n) 3)) : RowG base g (.slice (some ⟨g, 0, none⟩) n n) n (zeros n) X :=
  ⟨zeros_len n, fun _ => ⟨n, rfl, by simp [zeros], .inr ⟨g, n, _, rfl, hb, h, Nat.le_refl _, by unfold maxLen; omega, by simp [size_madeCells], by rw [toList_madeCells_one]; simp [zeros]⟩⟩⟩
end

/-- behind the region: a state of three rows of their own -/
def BuiltPost (n : Nat) (lv : List Int) (W : World) (F : Nat → Option Addr → Nat → Nat → Nat → Array Value) (ds : List Deferred) : Exit → Act → World → Prop := fun e a X =>
  e = .normal ∧ ∃ (Bs : Nat) (a1 : Option Addr) (c1 g1 g2 g3 : Nat), a = { tmps := F Bs a1 c1 g2 g3, defers := ds } ∧ W.heap.size ≤ Bs ∧
    BoxC X Bs 44 #[.slice a1 n c1, .slice (some ⟨g2, 0, none⟩) n n, .slice (some ⟨g3, 0, none⟩) n n] ∧
    RowG W.heap.size g1 (.slice a1 n c1) n lv X ∧ RowG W.heap.size g2 (.slice (some ⟨g2, 0, none⟩) n n) n (zeros n) X ∧ RowG W.heap.size g3 (.slice (some ⟨g3, 0, none⟩) n n) n (zeros n) X ∧
    W.heap.size ≤ g1 ∧ W.heap.size ≤ g2 ∧ W.heap.size ≤ g3 ∧ Bs ≠ g2 ∧ (0 < n → g1 ≠ g2) ∧ (0 < n → g1 ≠ g3) ∧ g2 ≠ g3 ∧ Below W.heap.size W X

set_option maxRecDepth 100000 in
set_option maxHeartbeats 8000000 in
theorem build_region (sup : Int) (av au ax aw : Option Addr) (n cv cu cx cw B3 B4 B6 B7 BB : Nat) (lv : List Int) (ds : List Deferred) (W : World) (h3 : BoxC W B3 24 #[.int .i64 sup, .slice av n cv]) (h4 : BoxC W B4 39 #[.slice au n cu])
    (hu : NumSl .i64 W (.slice au n cu) lv) (hl : lv.length = n) (hn : n ≤ 30) :
    (Go.Code.region 9 #[{ dst := some 55, op := Go.Op.load 39 (Go.Operand.tmp 4), type := 39, pos := "blower.go:90", after := #[], guard := none }, { dst := some 56, op := Go.Op.call { callee := Go.Callee.value (Go.Operand.func 54), args := #[Go.Operand.tmp 55], argTypes := #[39] }, type := 39, pos := "blower.go:90", after := #[{ on := 0, ground := Go.Ground.data }], guard := none }, { dst := some 57, op := Go.Op.fieldAddr 24 (Go.Operand.tmp 3) 1, type := 0, pos := "blower.go:90", after := #[], guard := none }, { dst := some 58, op := Go.Op.load 22 (Go.Operand.tmp 57), type := 22, pos := "blower.go:90", after := #[{ on := 2, ground := Go.Ground.data }], guard := none }, { dst := some 59, op := Go.Op.call { callee := Go.Callee.builtin Go.Builtin.len, args := #[Go.Operand.tmp 58], argTypes := #[22] }, type := 3, pos := "blower.go:90", after := #[{ on := 3, ground := Go.Ground.data }], guard := none }, { dst := some 60, op := Go.Op.makeSlice 39 (Go.Operand.tmp 59) (Go.Operand.tmp 59), type := 39, pos := "blower.go:90", after := #[{ on := 4, ground := Go.Ground.data }, { on := 4, ground := Go.Ground.data }], guard := none }, { dst := some 61, op := Go.Op.fieldAddr 24 (Go.Operand.tmp 3) 1, type := 0, pos := "blower.go:90", after := #[], guard := none }, { dst := some 62, op := Go.Op.load 22 (Go.Operand.tmp 61), type := 22, pos := "blower.go:90", after := #[{ on := 6, ground := Go.Ground.data }], guard := none }, { dst := some 63, op := Go.Op.call { callee := Go.Callee.builtin Go.Builtin.len, args := #[Go.Operand.tmp 62], argTypes := #[22] }, type := 3, pos := "blower.go:90", after := #[{ on := 7, ground := Go.Ground.data }], guard := none }, { dst := some 64, op := Go.Op.makeSlice 39 (Go.Operand.tmp 63) (Go.Operand.tmp 63), type := 39, pos := "blower.go:90", after := #[{ on := 8, ground := Go.Ground.data }, { on := 8, ground := Go.Ground.data }], guard := none }, { dst := some 65, op := Go.Op.build 44 #[(0, Go.Operand.tmp 56), (1, Go.Operand.tmp 60), (2, Go.Operand.tmp 64)], type := 44, pos := "blower.go:90", after := #[{ on := 1, ground := Go.Ground.data }, { on := 5, ground := Go.Ground.data }, { on := 9, ground := Go.Ground.data }], guard := none }, { dst := some 11, op := Go.Op.alloc 44, type := 0, pos := "blower.go:90", after := #[], guard := none }, { dst := none, op := Go.Op.store 44 (Go.Operand.tmp 11) (Go.Operand.tmp 65), type := 0, pos := "blower.go:90", after := #[{ on := 11, ground := Go.Ground.data }, { on := 10, ground := Go.Ground.data }, { on := 1, ground := Go.Ground.chain }, { on := 0, ground := Go.Ground.phase }, { on := 1, ground := Go.Ground.phase }, { on := 2, ground := Go.Ground.phase }, { on := 3, ground := Go.Ground.phase }, { on := 4, ground := Go.Ground.phase }, { on := 5, ground := Go.Ground.phase }, { on := 6, ground := Go.Ground.phase }, { on := 7, ground := Go.Ground.phase }, { on := 8, ground := Go.Ground.phase }, { on := 9, ground := Go.Ground.phase }, { on := 10, ground := Go.Ground.phase }, { on := 11, ground := Go.Ground.phase }], guard := none }] true).wp Try.prog (BuiltPost n lv W (fun Bs a1 c1 g2 g3 => #[.agg #[.int .i64 sup, .slice av n cv], .slice au n cu, .slice ax n cx, .pointer (some ⟨B3, 0, none⟩), .pointer (some ⟨B4, 0, none⟩), undef, .pointer (some ⟨B6, 0, none⟩), .pointer (some ⟨B7, 0, none⟩), undef, undef, undef, .pointer (some ⟨Bs, 0, none⟩), undef, undef, undef, undef, .slice ax n cx, .slice aw n cw, .pointer (some ⟨B3, 1, none⟩), .slice av n cv, .func (.func 57) #[] #[.pointer (some ⟨BB, 0, none⟩)], undef, undef, undef, undef, undef, undef, undef, undef, undef, undef, undef, undef, undef, undef, undef, undef, undef, undef, undef, undef, undef, undef, undef, undef, undef, undef, undef, undef, undef, undef, undef, undef, undef, undef, .slice au n cu, .slice a1 n c1, .pointer (some ⟨B3, 1, none⟩), .slice av n cv, .int .i64 n, .slice (some ⟨g2, 0, none⟩) n n, .pointer (some ⟨B3, 1, none⟩), .slice av n cv, .int .i64 n, .slice (some ⟨g3, 0, none⟩) n n, .agg #[.slice a1 n c1, .slice (some ⟨g2, 0, none⟩) n n, .slice (some ⟨g3, 0, none⟩) n n], undef, undef, undef, undef, undef, undef, undef, undef, undef, undef, undef, undef, undef, undef, undef, undef, undef, undef, undef, undef, undef, undef, undef, undef, undef, undef, undef, undef, undef, undef, undef, undef, undef, undef, undef, undef, undef, undef, undef, undef, undef, undef, undef, undef, undef, undef, undef, undef, undef]) ds) { tmps := #[.agg #[.int .i64 sup, .slice av n cv], .slice au n cu, .slice ax n cx, .pointer (some ⟨B3, 0, none⟩), .pointer (some ⟨B4, 0, none⟩), undef, .pointer (some ⟨B6, 0, none⟩), .pointer (some ⟨B7, 0, none⟩), undef, undef, undef, undef, undef, undef, undef, undef, .slice ax n cx, .slice aw n cw, .pointer (some ⟨B3, 1, none⟩), .slice av n cv, .func (.func 57) #[] #[.pointer (some ⟨BB, 0, none⟩)], undef, undef, undef, undef, undef, undef, undef, undef, undef, undef, undef, undef, undef, undef, undef, undef, undef, undef, undef, undef, undef, undef, undef, undef, undef, undef, undef, undef, undef, undef, undef, undef, undef, undef, undef, undef, undef, undef, undef, undef, undef, undef, undef, undef, undef, undef, undef, undef, undef, undef, undef, undef, undef, undef, undef, undef, undef, undef, undef, undef, undef, undef, undef, undef, undef, undef, undef, undef, undef, undef, undef, undef, undef, undef, undef, undef, undef, undef, undef, undef, undef, undef, undef, undef, undef, undef, undef, undef, undef, undef, undef, undef, undef, undef], defers := ds } W := by
  obtain ⟨i0, hi, hz0, hz1, hz2⟩ := info_parts info3
  have hmk : ∀ X : World, (Instr.makeSlice 39 (.int .i64 (n : Int)) (.int .i64 (n : Int))).run Try.prog X = .ok (.slice (some ⟨X.heap.size, 0, none⟩) n n) (X.alloc (.cells (madeCells #[.int .i64 0] n) 3)) := fun X => by
    have := run_make (P := Try.prog) X 39 3 i0 (.int .i64 0) Try.underlying39 hi hz0 .i64 .i64 n n (by omega) (by omega) (by rw [hz2]; omega) (by omega)
    rw [hz1] at this
    simpa [Value.cells] using this
  have c4 := h4.cell 0 rfl
  have c3 := h3.cell 1 rfl
  have hcl : ∀ X : World, Below W.heap.size W X → Calls Try.prog 54 #[.slice au n cu] X (ClonePost lv X) := fun X hb => clone_any _ lv _ (hu.mono hb) (by omega)
  replace hcl := Lib.hid hcl
  replace hl := Lib.hid hl
  have hb0 : Below W.heap.size W W.drew := (Below.refl _ _).drew
  go_region_held3 (fun X => X.cell? ⟨B4, 0, none⟩ = some (.slice au n cu) ∧ X.cell? ⟨B3, 1, none⟩ = some (.slice av n cv) ∧ Below W.heap.size W X)
    (first | exact ⟨c4, c3, hb0⟩ | (refine heldS_below ⟨c4, c3, Below.refl _ _⟩ ?_; (repeat (first | with_reducible exact hw1 | with_reducible exact Below.refl _ _ | with_reducible refine Below.drew ?_ | ((with_reducible refine Go.Proofs.Ytfefocgekmeahaa.Below.allocR ?_ ?_ _); (focus (first | with_reducible exact Nat.le_refl _ | omega | (simp; done) | (simp; omega)))) | ((with_reducible refine Go.Proofs.Ytfefocgekmeahaa.Below.setR ?_ ?_); (focus (first | with_reducible exact Nat.le_refl _ | omega | (simp; done) | (simp; omega)))))); done))
    (first | (go_at_call 54; refine (hcl.out _ (heldS_b ‹_ ∧ _ ∧ Below _ _ _›)).mono ?_; rintro e w1 ⟨g, a1, c1, rfl, hg, hrow, hb⟩; have hw1 := (heldS_b ‹_ ∧ _ ∧ Below _ _ _›).trans (hb.mono (heldS_b ‹_ ∧ _ ∧ Below _ _ _›).size); have hw1s := hw1.size; have hbs := hb.size; obtain ⟨hcc, hff⟩ := bcell hb; simp only [World.size_alloc, World.size_drew] at hcc hff hbs; (try have hl0 : W.heap.size < w1.heap.size := by omega); (try have hl1 : W.heap.size + 1 < w1.heap.size := by omega); (try have hl2 : W.heap.size + 1 + 1 < w1.heap.size := by omega); have hgl := (fun h => (RowG.lt hrow h).2)))
  all_goals
    rw [hl.out] at hrow ⊢
    simp only [World.size_alloc, World.size_drew] at hg hrow
    refine ⟨rfl, _, _, _, g, _, _, rfl, ?_, ?_, ?_, ?_, ?_, ?_, ?_, ?_, ?_, ?_, ?_, ?_, ?_⟩
  all_goals try omega
  all_goals try (intro hn0; have := hgl (by rw [hl.out]; exact hn0); omega)
  all_goals try ((repeat (first | with_reducible exact hw1 | with_reducible exact Below.refl _ _ | with_reducible refine Below.drew ?_ | ((with_reducible refine Go.Proofs.Ytfefocgekmeahaa.Below.allocR ?_ ?_ _); (focus (first | with_reducible exact Nat.le_refl _ | omega | (simp; done) | (simp; omega)))) | ((with_reducible refine Go.Proofs.Ytfefocgekmeahaa.Below.setR ?_ ?_); (focus (first | with_reducible exact Nat.le_refl _ | omega | (simp; done) | (simp; omega)))))); done)
  all_goals try ((with_reducible refine rowG_made ?_ ?_ ?_); omega; omega; (repeat (first | ((with_reducible refine alloc_new ?_); (first | rfl | (simp; done) | (simp; omega))) | with_reducible refine alloc_old ?_ | with_reducible refine drew_old ?_ | ((with_reducible refine set_old ?_ ?_); (focus (first | with_reducible exact Nat.le_refl _ | omega | (simp; done) | (simp; omega)))) | with_reducible refine below_old hb ?_)); done)
  all_goals try ((repeat (first | ((with_reducible refine hrow.low ?_); omega) | with_reducible refine RowG.alloc ?_ _ | ((with_reducible refine RowG.otherR ?_ ?_); (focus (first | with_reducible exact Nat.le_refl _ | omega | (simp; done) | (simp; omega)))))); done)
  all_goals try (unfold BoxC; (repeat (first | ((with_reducible refine alloc_new ?_); (first | rfl | (simp; done) | (simp; omega))) | with_reducible refine alloc_old ?_ | with_reducible refine drew_old ?_ | ((with_reducible refine set_old ?_ ?_); (focus (first | with_reducible exact Nat.le_refl _ | omega | (simp; done) | (simp; omega)))) | with_reducible refine below_old hb ?_)); done)
  all_goals ((repeat (with_reducible refine BoxC.alloc ?_ _)); (refine (BoxC.set (BoxC.set (BoxC.set (cs := #[.slice none 0 0, .slice none 0 0, .slice none 0 0]) ?_ 0 _) 1 _) 2 _)); unfold BoxC; (repeat (first | ((with_reducible refine alloc_new ?_); (first | rfl | (simp; done) | (simp; omega))) | with_reducible refine alloc_old ?_ | with_reducible refine drew_old ?_ | ((with_reducible refine set_old ?_ ?_); (focus (first | with_reducible exact Nat.le_refl _ | omega | (simp; done) | (simp; omega)))) | with_reducible refine below_old hb ?_)))
end Go.Proofs.Ytfefocgekmeahaa
