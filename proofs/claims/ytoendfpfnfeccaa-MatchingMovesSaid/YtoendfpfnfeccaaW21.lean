/- The contract of changed: some result. Conditions: at most 200 numbers a list. -/
import Derived.Test.YtoendfpfnfeccaaW20
namespace Go.Proofs.Ytoendfpfnfeccaa
open Go.RowKit Go.Shelf

theorem own_empty2 {X : World} {B : Nat} (h : B ≤ X.heap.size) : (X.alloc (.cells #[] 3)).ownsRow B 3 1 (.slice (some ⟨X.heap.size, 0, none⟩) 0 0) 0 [] :=
  ⟨rfl, .inr ⟨X.heap.size, 0, #[], rfl, h, World.alloc_heap_new X _, by omega, by unfold maxLen; omega, rfl, rfl⟩⟩
theorem own_shape {X : World} {B : Nat} {v : Value} {n : Nat} {xs : List Value} (h : X.ownsRow B 3 1 v n xs) : ∃ a n c, v = .slice a n c := by
  rcases h.2 with ⟨rfl, _⟩ | ⟨g, cap, cur, rfl, _⟩
  · exact ⟨_, _, _, rfl⟩
  · exact ⟨_, _, _, rfl⟩
/-- a copy of a list behind an empty row: nothing that was there changes -/
theorem copy_new {P : Program} {W : World} {B : Nat} (t ty : TypeId) (i : TypeInfo) (z : Value) (ht : P.underlying t = some (.slice 3)) (hi : P.info? 3 = some i) (hz : i.zero = some z) (hsz : i.size = 1) (hby : i.bytes = 8) (hzs : z.cells.size = 1)
    {g : Nat} (hown : W.ownsRow B 3 1 (.slice (some ⟨g, 0, none⟩) 0 0) 0 []) (hB : B ≤ W.heap.size) {u : Value} {xs : List Int} (hu : NumSl .i64 W u xs) (hn : xs.length ≤ 1000) :
    ∃ v W', (Builtin.append_ #[t, t] ty #[.slice (some ⟨g, 0, none⟩) 0 0, u]).run P W = .ok v W' ∧ W'.ownsRow B 3 1 v xs.length (xs.map (Value.int .i64)) ∧ Below W.heap.size W W' ∧ (0 < xs.length → v.ownBlock = some W.heap.size ∧ W.heap.size < W'.heap.size) ∧ (xs.length = 0 → v = .slice (some ⟨g, 0, none⟩) 0 0) := by
  rcases hu with ⟨⟨a, c, rfl⟩, rfl⟩ | ⟨b, off, c, rfl, hc⟩
  · cases a with
    | none => exact ⟨_, W, run_app_none ht hi _ 0 c [] hown, by simpa using hown, Below.refl _ _, fun h => absurd h (by simp), fun _ => rfl⟩
    | some a =>
      have hf := run_firstCells_some (P := P) W i.size 0 a 0 c [] (by simp) (by simp)
      refine ⟨.slice (some ⟨g, 0, none⟩) 0 0, W, ?_, by simpa using hown, Below.refl _ _, fun h => absurd h (by simp), fun _ => rfl⟩
      simp [Builtin.append_, run_underlying ht, sizeOf, typeInfo, hi, Builtin.lenOf, hf, storeCells]
  · rcases Nat.eq_zero_or_pos xs.length with h0 | h0
    · have hx : xs = [] := List.eq_nil_of_length_eq_zero h0
      subst hx
      have hf := run_firstCells_some (P := P) W i.size 0 ⟨b, off, none⟩ 0 c [] (by simp) (by simp)
      refine ⟨.slice (some ⟨g, 0, none⟩) 0 0, W, ?_, by simpa using hown, Below.refl _ _, fun h => absurd h (by simp), fun _ => rfl⟩
      simp [Builtin.append_, run_underlying ht, sizeOf, typeInfo, hi, Builtin.lenOf, hf, storeCells]
    · have hr := run_append_grow (P := P) W t ty 3 i z ht hi hz ⟨g, 0, none⟩ 0 0 [] (by simp) (by simp) ⟨b, off, none⟩ xs.length c (xs.map (Value.int .i64)) (by simp [hsz]) (news_of (.inr ⟨b, off, c, rfl, hc⟩)) (by omega) (by omega)
        (by rw [hby, Nat.zero_add, nextslicecap_zero h0]; omega)
      have hge := grownCap_ge W (0 + xs.length) 0 3
      have hle := grownCap_le_maxLen W (0 + xs.length) 0 3 (by unfold maxLen; omega)
      generalize grownCap W (0 + xs.length) 0 3 = cp at hr hge hle
      refine ⟨_, _, hr, ⟨by simp, .inr ⟨W.heap.size, cp, _, by rw [Nat.zero_add], hB, by simpa using World.alloc_heap_new W.drew _, by omega, hle, ?_, ?_⟩⟩, ((Below.refl _ W).drew).alloc (Nat.le_refl _) _, fun _ => ⟨rfl, by simp⟩, fun h => by omega⟩
      · simp [size_zeroCells, hzs]; omega
      · simp
abbrev OwnI (B : Nat) (xs : List Int) (v : Value) (X : World) : Prop := X.ownsRow B 3 1 v xs.length (xs.map (Value.int .i64))
theorem OwnI.below {B : Nat} {xs : List Int} {v : Value} {X X' : World} (h : OwnI B xs v X) (hb : Below X.heap.size X X') : OwnI B xs v X' := ownsRow_grown h hb
/-- the block that an operation of region 1 makes, if another must differ from it -/
def mkc (cs rows pots : List Int) (i : Nat) (v : Value) : Option Nat := if i = 3 ∧ 0 < cs.length then v.ownBlock else if i = 9 ∧ 0 < rows.length then v.ownBlock else if i = 13 ∧ 0 < pots.length then v.ownBlock else none
theorem mkc_3 {cs rows pots : List Int} {v : Value} {b : Nat} (h : mkc cs rows pots 3 v = some b) : 0 < cs.length ∧ v.ownBlock = some b := by
  unfold mkc at h
  by_cases h0 : 0 < cs.length
  · rw [if_pos ⟨rfl, h0⟩] at h; exact ⟨h0, h⟩
  · simp [h0] at h
theorem mkc_9 {cs rows pots : List Int} {v : Value} {b : Nat} (h : mkc cs rows pots 9 v = some b) : 0 < rows.length ∧ v.ownBlock = some b := by
  unfold mkc at h
  by_cases h0 : 0 < rows.length
  · simp [h0] at h; exact ⟨h0, h⟩
  · simp [h0] at h
theorem mkc_13 {cs rows pots : List Int} {v : Value} {b : Nat} (h : mkc cs rows pots 13 v = some b) : 0 < pots.length ∧ v.ownBlock = some b := by
  unfold mkc at h
  by_cases h0 : 0 < pots.length
  · simp [h0] at h; exact ⟨h0, h⟩
  · simp [h0] at h
/-- the second row lies apart -/
def ChD (cs rows pots : List Int) (v1 v2 v3 : Value) : Prop := (rows.length = 0 → ∃ g, v2 = .slice (some ⟨g, 0, none⟩) 0 0) ∧ (0 < rows.length → (0 < cs.length → v1.ownBlock ≠ v2.ownBlock) ∧ (0 < pots.length → v3.ownBlock ≠ v2.ownBlock))
/-- the operations of region 1 -/
def cg (B a0 : Nat) (vc vr vl : Value) (tot : Int) (cs rows pots : List Int) : Nat → Value → World → Prop
  | 0, v, X => ∃ g, v = .slice (some ⟨g, 0, none⟩) 0 0 ∧ X.ownsRow B 3 1 (.slice (some ⟨g, 0, none⟩) 0 0) 0 []
  | 1, v, _ => v = .pointer (some ⟨a0, 0, none⟩)
  | 2, v, _ => v = vc
  | 3, v, X => OwnI B cs v X
  | 4, v, _ => v = .pointer (some ⟨a0, 1, none⟩)
  | 5, v, _ => v = .int .i64 tot
  | 6, v, X => ∃ g, v = .slice (some ⟨g, 0, none⟩) 0 0 ∧ X.ownsRow B 3 1 (.slice (some ⟨g, 0, none⟩) 0 0) 0 []
  | 7, v, _ => v = .pointer (some ⟨a0, 2, none⟩)
  | 8, v, _ => v = vr
  | 9, v, X => OwnI B rows v X ∧ (rows.length = 0 → ∃ g, v = .slice (some ⟨g, 0, none⟩) 0 0)
  | 10, v, X => ∃ g, v = .slice (some ⟨g, 0, none⟩) 0 0 ∧ X.ownsRow B 3 1 (.slice (some ⟨g, 0, none⟩) 0 0) 0 []
  | 11, v, _ => v = .pointer (some ⟨a0, 3, none⟩)
  | 12, v, _ => v = vl
  | 13, v, X => OwnI B pots v X
  | 14, v, X => ∃ v1 v2 v3, v = .agg #[v1, .int .i64 tot, v2, v3] ∧ OwnI B cs v1 X ∧ OwnI B rows v2 X ∧ OwnI B pots v3 X ∧ ChD cs rows pots v1 v2 v3
  | 15, v, X => ∃ b, v = .pointer (some ⟨b, 0, none⟩) ∧ B ≤ b ∧ BoxC X b 32 #[.slice none 0 0, .int .i64 0, .slice none 0 0, .slice none 0 0]
  | _ + 16, _, _ => True
theorem cg_mono {B a0 : Nat} {vc vr vl : Value} {tot : Int} {cs rows pots : List Int} {X X' : World} (hb : Below X.heap.size X X') : ∀ (i : Nat) (v : Value), cg B a0 vc vr vl tot cs rows pots i v X → cg B a0 vc vr vl tot cs rows pots i v X'
  | 0, _, ⟨g, h1, h2⟩ => ⟨g, h1, ownsRow_grown h2 hb⟩
  | 1, _, h => h
  | 2, _, h => h
  | 3, _, h => OwnI.below h hb
  | 4, _, h => h
  | 5, _, h => h
  | 6, _, ⟨g, h1, h2⟩ => ⟨g, h1, ownsRow_grown h2 hb⟩
  | 7, _, h => h
  | 8, _, h => h
  | 9, _, h => ⟨OwnI.below h.1 hb, h.2⟩
  | 10, _, ⟨g, h1, h2⟩ => ⟨g, h1, ownsRow_grown h2 hb⟩
  | 11, _, h => h
  | 12, _, h => h
  | 13, _, h => OwnI.below h hb
  | 14, _, ⟨v1, v2, v3, h1, h2, h3, h4, h5⟩ => ⟨v1, v2, v3, h1, h2.below hb, h3.below hb, h4.below hb, h5⟩
  | 15, _, ⟨b, h1, h2, h3⟩ => ⟨b, h1, h2, h3.grown hb⟩
  | _ + 16, _, _ => trivial
def RegCh (B : Nat) (W : World) (tot : Int) (cs rows pots : List Int) (F : Nat → Value → Value → Value → Value → Value → Value → Value → Value → Value → Value → Value → Value → Value → Value → Value → Array Value) : Exit → Act → World → Prop := fun e a X =>
  e = .normal ∧ ∃ b x0 x1 x2 x3 x4 x5 x6 x7 x8 x9 x10 x11 x12 x13 x14 v1 v2 v3, a = { tmps := F b x0 x1 x2 x3 x4 x5 x6 x7 x8 x9 x10 x11 x12 x13 x14, defers := [] } ∧ BoxC X b 32 #[v1, .int .i64 tot, v2, v3] ∧ B ≤ b ∧ OwnI B cs v1 X ∧ OwnI B rows v2 X ∧ OwnI B pots v3 X ∧ Below B W X ∧ ChD cs rows pots v1 v2 v3
/-- behind changed: some result -/
def ChPost (n : Nat) (w : World) (e : Ending) (X : World) : Prop := ∃ vc vr vl tot cs rows pots, e = .returned (resB vc tot vr vl) ∧ NumSl .i64 X vc cs ∧ NumSl .i64 X vr rows ∧ NumSl .i64 X vl pots ∧ rows.length ≤ n ∧ Below w.heap.size w X

theorem wrap_i64' (n : Int) : IntKind.i64.wrap n = wrap64 n := by unfold wrap64; rw [IntKind.wrap_i64]
/-- what lies there before the end -/
structure ChS (w : World) (a0 b : Nat) (u1 u2 u3 : Value) (t : Int) (cs rows pots : List Int) (X : World) : Prop where
  bx : BoxC X b 32 #[u1, .int .i64 t, u2, u3]
  rb : BoxC X (a0 + 1 + 1) 32 #[.slice none 0 0, .int .i64 0, .slice none 0 0, .slice none 0 0]
  n1 : NumSl .i64 X u1 cs
  n2 : NumSl .i64 X u2 rows
  n3 : NumSl .i64 X u3 pots
  l1 : ∀ g, u1.ownBlock = some g → a0 + 1 + 1 < g
  l2 : ∀ g, u2.ownBlock = some g → a0 + 1 + 1 < g
  l3 : ∀ g, u3.ownBlock = some g → a0 + 1 + 1 < g
  rl : rows.length ≤ 1000
  bl : Below a0 w X
theorem ChS.tame {w X X' : World} {a0 b B : Nat} {u1 u2 u3 : Value} {t : Int} {cs rows pots : List Int} (h : ChS w a0 b u1 u2 u3 t cs rows pots X) (hT : Tame B X X') (hB : a0 ≤ B) : ∃ cs2 rows2 pots2 : List Int, ChS w a0 b u1 u2 u3 t cs2 rows2 pots2 X' := by
  obtain ⟨c, c1, c2⟩ := hT.n _ _ h.n1
  obtain ⟨r, r1, r2⟩ := hT.n _ _ h.n2
  obtain ⟨p, p1, p2⟩ := hT.n _ _ h.n3
  exact ⟨c, r, p, hT.b _ _ h.bx, hT.b _ _ h.rb, c2, r2, p2, h.l1, h.l2, h.l3, by rw [r1]; exact h.rl, h.bl.trans (hT.bl.mono hB)⟩
theorem ChS.end' {w X : World} {a0 b : Nat} {u1 u2 u3 : Value} {t : Int} {cs rows pots : List Int} (h : ChS w a0 b u1 u2 u3 t cs rows pots X) :
    let Z := (((X.setCell ⟨a0 + 1 + 1, 0, none⟩ u1).setCell ⟨a0 + 1 + 1, 1, none⟩ (.int .i64 t)).setCell ⟨a0 + 1 + 1, 2, none⟩ u2).setCell ⟨a0 + 1 + 1, 3, none⟩ u3
    BoxC Z (a0 + 1 + 1) 32 #[u1, .int .i64 t, u2, u3] ∧ NumSl .i64 Z u1 cs ∧ NumSl .i64 Z u2 rows ∧ NumSl .i64 Z u3 pots ∧ Below a0 w Z := by
  have hg := grownBy_trans (grownBy_trans (grownBy_trans (grownBy_setCell X ⟨a0 + 1 + 1, 0, none⟩ u1) (grownBy_setCell _ ⟨a0 + 1 + 1, 1, none⟩ (.int .i64 t))) (grownBy_setCell _ ⟨a0 + 1 + 1, 2, none⟩ u2)) (grownBy_setCell _ ⟨a0 + 1 + 1, 3, none⟩ u3)
  refine ⟨h.rb.put4 _ _ _ _, h.n1.kept hg (fun g hg _ e => ?_), h.n2.kept hg (fun g hg _ e => ?_), h.n3.kept hg (fun g hg _ e => ?_), (((h.bl.setCell (p := ⟨a0 + 1 + 1, 0, none⟩) (by show a0 ≤ a0 + 1 + 1; omega) _).setCell (p := ⟨a0 + 1 + 1, 1, none⟩) (by show a0 ≤ a0 + 1 + 1; omega) _).setCell (p := ⟨a0 + 1 + 1, 2, none⟩) (by show a0 ≤ a0 + 1 + 1; omega) _).setCell (p := ⟨a0 + 1 + 1, 3, none⟩) (by show a0 ≤ a0 + 1 + 1; omega) _⟩
  · exact Nat.ne_of_lt (h.l1 g hg) (Option.some.inj e)
  · exact Nat.ne_of_lt (h.l2 g hg) (Option.some.inj e)
  · exact Nat.ne_of_lt (h.l3 g hg) (Option.some.inj e)
/-- the sum is changed -/
theorem ChS.sum {w X : World} {a0 b : Nat} {u1 u2 u3 : Value} {t : Int} {cs rows pots : List Int} (h : ChS w a0 b u1 u2 u3 t cs rows pots X) (z : Int) (hb : a0 + 1 + 1 < b) (h1 : some b ≠ u1.ownBlock) (h2 : some b ≠ u2.ownBlock) (h3 : some b ≠ u3.ownBlock) :
    ChS w a0 b u1 u2 u3 z cs rows pots (X.setCell ⟨b, 1, none⟩ (.int .i64 z)) := by
  have hg := grownBy_setCell X ⟨b, 1, none⟩ (.int .i64 z)
  exact ⟨h.bx.set 1 _, h.rb.other (by show a0 + 1 + 1 ≠ b; omega) _, h.n1.kept hg (fun g hg _ e => h1 (e.trans hg.symm)), h.n2.kept hg (fun g hg _ e => h2 (e.trans hg.symm)), h.n3.kept hg (fun g hg _ e => h3 (e.trans hg.symm)), h.l1, h.l2, h.l3, h.rl, h.bl.setCell (p := ⟨b, 1, none⟩) (by show a0 ≤ b; omega) _⟩
/-- the rows are others -/
theorem ChS.rows' {w X X' : World} {a0 b : Nat} {u1 u2 u3 u2' : Value} {t : Int} {cs rows pots rows2 : List Int} {row : Option Nat} (h : ChS w a0 b u1 u2 u3 t cs rows pots X) (hg : X.grownBy X' row) (hr : ∀ g, row = some g → a0 + 1 + 1 < g) (hb : a0 + 1 + 1 < b) (ha : a0 ≤ X.heap.size) (hrb : some b ≠ row)
    (hn : NumSl .i64 X' u2' rows2) (hl : ∀ g, u2'.ownBlock = some g → a0 + 1 + 1 < g) (h1 : some b ≠ u1.ownBlock) (h2 : some b ≠ u2'.ownBlock) (h3 : some b ≠ u3.ownBlock) (e1 : 0 < cs.length → u1.ownBlock ≠ row ∨ row = none) (e3 : 0 < pots.length → u3.ownBlock ≠ row ∨ row = none) (hrl : rows2.length ≤ 1000) :
    ChS w a0 b u1 u2' u3 t cs rows2 pots (X'.setCell ⟨b, 2, none⟩ u2') := by
  have hg2 := grownBy_setCell X' ⟨b, 2, none⟩ u2'
  have hBl := h.bl.grown hg ha (fun g e => by have := hr g e; omega)
  refine ⟨(h.bx.kept hg hrb).set 2 _, (h.rb.kept hg (fun e => by have := hr _ e.symm; omega)).other (by show a0 + 1 + 1 ≠ b; omega) _, (h.n1.kept hg (fun g hg0 h0 e => ?_)).kept hg2 (fun g hg _ e => h1 (e.trans hg.symm)), hn.kept hg2 (fun g hg _ e => h2 (e.trans hg.symm)), (h.n3.kept hg (fun g hg0 h0 e => ?_)).kept hg2 (fun g hg _ e => h3 (e.trans hg.symm)), h.l1, hl, h.l3, hrl, hBl.setCell (p := ⟨b, 2, none⟩) (by show a0 ≤ b; omega) _⟩
  · rcases e1 h0 with h | h
    · exact h (hg0.trans e.symm)
    · rw [h] at e; cases e
  · rcases e3 h0 with h | h
    · exact h (hg0.trans e.symm)
    · rw [h] at e; cases e
set_option maxRecDepth 100000 in
set_option maxHeartbeats 8000000 in
theorem changed_any (vc vr vl : Value) (cs rows pots : List Int) (tot sa sb sc : Int) (w : World) (hc : NumSl .i64 w vc cs) (hr : NumSl .i64 w vr rows) (hl : NumSl .i64 w vl pots) (hcn : cs.length ≤ 200) (hrn : rows.length ≤ 200) (hln : pots.length ≤ 200) :
    Calls Try.prog 28 #[resB vc tot vr vl, .agg #[.int .i64 sa, .int .i64 sb, .int .i64 sc]] w (ChPost 1000 w) := by
  obtain ⟨i0, hi, hz0, hz1, hz2⟩ := info_parts info3
  have hB : Below w.heap.size w (((w.alloc (.cells #[vc, .int .i64 tot, vr, vl] 32)).alloc (.cells #[.int .i64 sa, .int .i64 sb, .int .i64 sc] 55)).alloc (.cells #[.slice none 0 0, .int .i64 0, .slice none 0 0, .slice none 0 0] 32)) := (((Below.refl _ w).alloc (Nat.le_refl _) _).alloc (by simp) _).alloc (by simp; omega) _
  have hA := (Below.refl w.heap.size w).alloc (Nat.le_refl _) (.cells #[vc, .int .i64 tot, vr, vl] 32)
  have b0 := ((BoxC.new w 32 #[vc, .int .i64 tot, vr, vl]).alloc (.cells #[.int .i64 sa, .int .i64 sb, .int .i64 sc] 55)).alloc (.cells #[.slice none 0 0, .int .i64 0, .slice none 0 0, .slice none 0 0] 32)
  have b1 := (BoxC.new (w.alloc (.cells #[vc, .int .i64 tot, vr, vl] 32)) 55 #[.int .i64 sa, .int .i64 sb, .int .i64 sc]).alloc (.cells #[.slice none 0 0, .int .i64 0, .slice none 0 0, .slice none 0 0] 32)
  have b2 := BoxC.new ((w.alloc (.cells #[vc, .int .i64 tot, vr, vl] 32)).alloc (.cells #[.int .i64 sa, .int .i64 sb, .int .i64 sc] 55)) 32 #[.slice none 0 0, .int .i64 0, .slice none 0 0, .slice none 0 0]
  rw [World.size_alloc] at b1
  rw [World.size_alloc, World.size_alloc] at b2
  replace hc := hc.mono hB
  replace hr := hr.mono hB
  replace hl := hl.mono hB
  obtain ⟨ac, cc, rfl⟩ := hc.len
  obtain ⟨ar, cr, rfl⟩ := hr.len
  obtain ⟨al, cl, rfl⟩ := hl.len
  clear hA
  go_enter Try.func28, Try.ntmps28
  go_wp2_with fail
  generalize ((w.alloc (.cells #[.slice ac cs.length cc, .int .i64 tot, .slice ar rows.length cr, .slice al pots.length cl] 32)).alloc (.cells #[.int .i64 sa, .int .i64 sb, .int .i64 sc] 55)).alloc (.cells #[.slice none 0 0, .int .i64 0, .slice none 0 0, .slice none 0 0] 32) = W at hB b0 b1 b2 hc hr hl ⊢
  generalize ha0 : w.heap.size = a0 at b0 b1 b2 ⊢
  have hlt0 := b0.lt
  have hbx := b0
  refine Code.wp_mono ?post1 (region_makers_at (Q := RegCh W.heap.size W tot cs rows pots (fun b x0 x1 x2 x3 x4 x5 x6 x7 x8 x9 x10 x11 x12 x13 x14 => #[resB (.slice ac cs.length cc) tot (.slice ar rows.length cr) (.slice al pots.length cl), .agg #[.int .i64 sa, .int .i64 sb, .int .i64 sc], .pointer (some ⟨a0, 0, none⟩), .pointer (some ⟨a0 + 1, 0, none⟩), .pointer (some ⟨a0 + 1 + 1, 0, none⟩), .pointer (some ⟨b, 0, none⟩), x0, x1, x2, x3, x4, x5, x6, x7, x8, x9, x10, x11, x12, x13, x14, undef, undef, undef, undef, undef, undef, undef, undef, undef, undef, undef, undef, undef, undef, undef, undef, undef, undef, undef, undef, undef, undef, undef, undef, undef, undef, undef, undef, undef, undef, undef, undef, undef, undef, undef, undef, undef, undef, undef, undef])) 16 (fun s => #[resB (.slice ac cs.length cc) tot (.slice ar rows.length cr) (.slice al pots.length cl), .agg #[.int .i64 sa, .int .i64 sb, .int .i64 sc], .pointer (some ⟨a0, 0, none⟩), .pointer (some ⟨a0 + 1, 0, none⟩), .pointer (some ⟨a0 + 1 + 1, 0, none⟩), s 15, s 0, s 1, s 2, s 3, s 4, s 5, s 6, s 7, s 8, s 9, s 10, s 11, s 12, s 13, s 14, undef, undef, undef, undef, undef, undef, undef, undef, undef, undef, undef, undef, undef, undef, undef, undef, undef, undef, undef, undef, undef, undef, undef, undef, undef, undef, undef, undef, undef, undef, undef, undef, undef, undef, undef, undef, undef, undef, undef, undef]) (fun _ => undef) [] (cg W.heap.size a0 (.slice ac cs.length cc) (.slice ar rows.length cr) (.slice al pots.length cl) tot cs rows pots) (fun X => Below W.heap.size W X) (mkc cs rows pots) (by kernel_rfl) (by kernel_rfl) ((Below.refl _ _).drew) ?step (fun j u X X' _ h hb => cg_mono hb j u h) ?tail)
  case step =>
    intro i o hi' ho s X hb hd hne
    match i, hi' with
        | 0, _ =>
          simp at ho
          subst ho
          refine wp_val (v := .slice (some ⟨X.heap.size, 0, none⟩) 0 0) (X' := X.alloc (.cells #[] 3)) (by simp [execOp, go_sem]) ⟨_, by simp [Act.put, upd], hb.alloc hb.size _, ⟨X.heap.size, rfl, own_empty2 hb.size⟩, (Below.refl _ X).alloc (Nat.le_refl _) _, fun b h => by simp [mkc] at h⟩
        | 1, _ =>
          simp at ho
          subst ho
          refine wp_val (v := .pointer (some ⟨a0, 0, none⟩)) (X' := X) (by simp [execOp, go_sem]) ⟨_, by simp [Act.put, upd], hb, rfl, Below.refl _ _, fun b h => by simp [mkc] at h⟩
        | 2, _ =>
          simp at ho
          subst ho
          simp at hd
          have hx : s 1 = .pointer (some ⟨a0, 0, none⟩) := hd
          have hc : X.cell? ⟨a0, 0, none⟩ = some (.slice ac cs.length cc) := (hb.cell (p := ⟨a0, 0, none⟩) hlt0).trans (hbx.cell 0 rfl)
          refine wp_val (v := .slice ac cs.length cc) (X' := X) (by simp [execOp, go_sem, hx, hc]) ⟨_, by simp [Act.put, upd], hb, rfl, Below.refl _ _, fun b h => by simp [mkc] at h⟩
        | 3, _ =>
          simp at ho
          subst ho
          simp at hd
          obtain ⟨h1, h2⟩ := hd
          obtain ⟨g, h1', ho1⟩ : ∃ g, s 0 = .slice (some ⟨g, 0, none⟩) 0 0 ∧ X.ownsRow W.heap.size 3 1 (.slice (some ⟨g, 0, none⟩) 0 0) 0 [] := h1
          have h2' : s 2 = .slice ac cs.length cc := by first | exact h2 | exact h2.1
          have hE0 : ({ tmps := #[resB (.slice ac cs.length cc) tot (.slice ar rows.length cr) (.slice al pots.length cl), .agg #[.int .i64 sa, .int .i64 sb, .int .i64 sc], .pointer (some ⟨a0, 0, none⟩), .pointer (some ⟨a0 + 1, 0, none⟩), .pointer (some ⟨a0 + 1 + 1, 0, none⟩), s 15, s 0, s 1, s 2, s 3, s 4, s 5, s 6, s 7, s 8, s 9, s 10, s 11, s 12, s 13, s 14, undef, undef, undef, undef, undef, undef, undef, undef, undef, undef, undef, undef, undef, undef, undef, undef, undef, undef, undef, undef, undef, undef, undef, undef, undef, undef, undef, undef, undef, undef, undef, undef, undef, undef, undef, undef, undef, undef, undef, undef], defers := [] } : Act).eval (.tmp 6) = .slice (some ⟨g, 0, none⟩) 0 0 := by simpa [go_sem] using h1'
          have hE1 : ({ tmps := #[resB (.slice ac cs.length cc) tot (.slice ar rows.length cr) (.slice al pots.length cl), .agg #[.int .i64 sa, .int .i64 sb, .int .i64 sc], .pointer (some ⟨a0, 0, none⟩), .pointer (some ⟨a0 + 1, 0, none⟩), .pointer (some ⟨a0 + 1 + 1, 0, none⟩), s 15, s 0, s 1, s 2, s 3, s 4, s 5, s 6, s 7, s 8, s 9, s 10, s 11, s 12, s 13, s 14, undef, undef, undef, undef, undef, undef, undef, undef, undef, undef, undef, undef, undef, undef, undef, undef, undef, undef, undef, undef, undef, undef, undef, undef, undef, undef, undef, undef, undef, undef, undef, undef, undef, undef, undef, undef, undef, undef, undef, undef], defers := [] } : Act).eval (.tmp 8) = .slice ac cs.length cc := by simpa [go_sem] using h2'
          obtain ⟨v', X', hrun, ho2, hb2, hnew, hzero⟩ := copy_new (P := Try.prog) (W := X) (B := W.heap.size) 24 24 i0 _ Try.underlying24 hi hz0 hz1 hz2 rfl ho1 hb.size (hc.mono hb) (by omega)
          refine wp_val (v := v') (X' := X') (by unfold execOp; simp only [resolve, invoke, builtin, Sem.run_bind, Sem.run_pure, Result.andThen_ok, List.map_toArray, List.map_cons, List.map_nil, hE0, hE1, hrun]) ⟨_, by simp [Act.put, upd], hb.trans (hb2.mono hb.size), ho2, hb2, fun b h => by
            obtain ⟨h0, h⟩ := mkc_3 h
            have h9 := hnew h0
            rw [h9.1] at h
            cases h
            exact ⟨Nat.le_refl _, h9.2⟩⟩
        | 4, _ =>
          simp at ho
          subst ho
          refine wp_val (v := .pointer (some ⟨a0, 1, none⟩)) (X' := X) (by simp [execOp, go_sem]) ⟨_, by simp [Act.put, upd], hb, rfl, Below.refl _ _, fun b h => by simp [mkc] at h⟩
        | 5, _ =>
          simp at ho
          subst ho
          simp at hd
          have hx : s 4 = .pointer (some ⟨a0, 1, none⟩) := hd
          have hc : X.cell? ⟨a0, 1, none⟩ = some (.int .i64 tot) := (hb.cell (p := ⟨a0, 1, none⟩) hlt0).trans (hbx.cell 1 rfl)
          refine wp_val (v := .int .i64 tot) (X' := X) (by simp [execOp, go_sem, hx, hc]) ⟨_, by simp [Act.put, upd], hb, rfl, Below.refl _ _, fun b h => by simp [mkc] at h⟩
        | 6, _ =>
          simp at ho
          subst ho
          refine wp_val (v := .slice (some ⟨X.heap.size, 0, none⟩) 0 0) (X' := X.alloc (.cells #[] 3)) (by simp [execOp, go_sem]) ⟨_, by simp [Act.put, upd], hb.alloc hb.size _, ⟨X.heap.size, rfl, own_empty2 hb.size⟩, (Below.refl _ X).alloc (Nat.le_refl _) _, fun b h => by simp [mkc] at h⟩
        | 7, _ =>
          simp at ho
          subst ho
          refine wp_val (v := .pointer (some ⟨a0, 2, none⟩)) (X' := X) (by simp [execOp, go_sem]) ⟨_, by simp [Act.put, upd], hb, rfl, Below.refl _ _, fun b h => by simp [mkc] at h⟩
        | 8, _ =>
          simp at ho
          subst ho
          simp at hd
          have hx : s 7 = .pointer (some ⟨a0, 2, none⟩) := hd
          have hc : X.cell? ⟨a0, 2, none⟩ = some (.slice ar rows.length cr) := (hb.cell (p := ⟨a0, 2, none⟩) hlt0).trans (hbx.cell 2 rfl)
          refine wp_val (v := .slice ar rows.length cr) (X' := X) (by simp [execOp, go_sem, hx, hc]) ⟨_, by simp [Act.put, upd], hb, rfl, Below.refl _ _, fun b h => by simp [mkc] at h⟩
        | 9, _ =>
          simp at ho
          subst ho
          simp at hd
          obtain ⟨h1, h2⟩ := hd
          obtain ⟨g, h1', ho1⟩ : ∃ g, s 6 = .slice (some ⟨g, 0, none⟩) 0 0 ∧ X.ownsRow W.heap.size 3 1 (.slice (some ⟨g, 0, none⟩) 0 0) 0 [] := h1
          have h2' : s 8 = .slice ar rows.length cr := by first | exact h2 | exact h2.1
          have hE0 : ({ tmps := #[resB (.slice ac cs.length cc) tot (.slice ar rows.length cr) (.slice al pots.length cl), .agg #[.int .i64 sa, .int .i64 sb, .int .i64 sc], .pointer (some ⟨a0, 0, none⟩), .pointer (some ⟨a0 + 1, 0, none⟩), .pointer (some ⟨a0 + 1 + 1, 0, none⟩), s 15, s 0, s 1, s 2, s 3, s 4, s 5, s 6, s 7, s 8, s 9, s 10, s 11, s 12, s 13, s 14, undef, undef, undef, undef, undef, undef, undef, undef, undef, undef, undef, undef, undef, undef, undef, undef, undef, undef, undef, undef, undef, undef, undef, undef, undef, undef, undef, undef, undef, undef, undef, undef, undef, undef, undef, undef, undef, undef, undef, undef], defers := [] } : Act).eval (.tmp 12) = .slice (some ⟨g, 0, none⟩) 0 0 := by simpa [go_sem] using h1'
          have hE1 : ({ tmps := #[resB (.slice ac cs.length cc) tot (.slice ar rows.length cr) (.slice al pots.length cl), .agg #[.int .i64 sa, .int .i64 sb, .int .i64 sc], .pointer (some ⟨a0, 0, none⟩), .pointer (some ⟨a0 + 1, 0, none⟩), .pointer (some ⟨a0 + 1 + 1, 0, none⟩), s 15, s 0, s 1, s 2, s 3, s 4, s 5, s 6, s 7, s 8, s 9, s 10, s 11, s 12, s 13, s 14, undef, undef, undef, undef, undef, undef, undef, undef, undef, undef, undef, undef, undef, undef, undef, undef, undef, undef, undef, undef, undef, undef, undef, undef, undef, undef, undef, undef, undef, undef, undef, undef, undef, undef, undef, undef, undef, undef, undef, undef], defers := [] } : Act).eval (.tmp 14) = .slice ar rows.length cr := by simpa [go_sem] using h2'
          obtain ⟨v', X', hrun, ho2, hb2, hnew, hzero⟩ := copy_new (P := Try.prog) (W := X) (B := W.heap.size) 24 24 i0 _ Try.underlying24 hi hz0 hz1 hz2 rfl ho1 hb.size (hr.mono hb) (by omega)
          refine wp_val (v := v') (X' := X') (by unfold execOp; simp only [resolve, invoke, builtin, Sem.run_bind, Sem.run_pure, Result.andThen_ok, List.map_toArray, List.map_cons, List.map_nil, hE0, hE1, hrun]) ⟨_, by simp [Act.put, upd], hb.trans (hb2.mono hb.size), ⟨ho2, fun h0 => ⟨g, hzero h0⟩⟩, hb2, fun b h => by
            obtain ⟨h0, h⟩ := mkc_9 h
            have h9 := hnew h0
            rw [h9.1] at h
            cases h
            exact ⟨Nat.le_refl _, h9.2⟩⟩
        | 10, _ =>
          simp at ho
          subst ho
          refine wp_val (v := .slice (some ⟨X.heap.size, 0, none⟩) 0 0) (X' := X.alloc (.cells #[] 3)) (by simp [execOp, go_sem]) ⟨_, by simp [Act.put, upd], hb.alloc hb.size _, ⟨X.heap.size, rfl, own_empty2 hb.size⟩, (Below.refl _ X).alloc (Nat.le_refl _) _, fun b h => by simp [mkc] at h⟩
        | 11, _ =>
          simp at ho
          subst ho
          refine wp_val (v := .pointer (some ⟨a0, 3, none⟩)) (X' := X) (by simp [execOp, go_sem]) ⟨_, by simp [Act.put, upd], hb, rfl, Below.refl _ _, fun b h => by simp [mkc] at h⟩
        | 12, _ =>
          simp at ho
          subst ho
          simp at hd
          have hx : s 11 = .pointer (some ⟨a0, 3, none⟩) := hd
          have hc : X.cell? ⟨a0, 3, none⟩ = some (.slice al pots.length cl) := (hb.cell (p := ⟨a0, 3, none⟩) hlt0).trans (hbx.cell 3 rfl)
          refine wp_val (v := .slice al pots.length cl) (X' := X) (by simp [execOp, go_sem, hx, hc]) ⟨_, by simp [Act.put, upd], hb, rfl, Below.refl _ _, fun b h => by simp [mkc] at h⟩
        | 13, _ =>
          simp at ho
          subst ho
          simp at hd
          obtain ⟨h1, h2⟩ := hd
          obtain ⟨g, h1', ho1⟩ : ∃ g, s 10 = .slice (some ⟨g, 0, none⟩) 0 0 ∧ X.ownsRow W.heap.size 3 1 (.slice (some ⟨g, 0, none⟩) 0 0) 0 [] := h1
          have h2' : s 12 = .slice al pots.length cl := by first | exact h2 | exact h2.1
          have hE0 : ({ tmps := #[resB (.slice ac cs.length cc) tot (.slice ar rows.length cr) (.slice al pots.length cl), .agg #[.int .i64 sa, .int .i64 sb, .int .i64 sc], .pointer (some ⟨a0, 0, none⟩), .pointer (some ⟨a0 + 1, 0, none⟩), .pointer (some ⟨a0 + 1 + 1, 0, none⟩), s 15, s 0, s 1, s 2, s 3, s 4, s 5, s 6, s 7, s 8, s 9, s 10, s 11, s 12, s 13, s 14, undef, undef, undef, undef, undef, undef, undef, undef, undef, undef, undef, undef, undef, undef, undef, undef, undef, undef, undef, undef, undef, undef, undef, undef, undef, undef, undef, undef, undef, undef, undef, undef, undef, undef, undef, undef, undef, undef, undef, undef], defers := [] } : Act).eval (.tmp 16) = .slice (some ⟨g, 0, none⟩) 0 0 := by simpa [go_sem] using h1'
          have hE1 : ({ tmps := #[resB (.slice ac cs.length cc) tot (.slice ar rows.length cr) (.slice al pots.length cl), .agg #[.int .i64 sa, .int .i64 sb, .int .i64 sc], .pointer (some ⟨a0, 0, none⟩), .pointer (some ⟨a0 + 1, 0, none⟩), .pointer (some ⟨a0 + 1 + 1, 0, none⟩), s 15, s 0, s 1, s 2, s 3, s 4, s 5, s 6, s 7, s 8, s 9, s 10, s 11, s 12, s 13, s 14, undef, undef, undef, undef, undef, undef, undef, undef, undef, undef, undef, undef, undef, undef, undef, undef, undef, undef, undef, undef, undef, undef, undef, undef, undef, undef, undef, undef, undef, undef, undef, undef, undef, undef, undef, undef, undef, undef, undef, undef], defers := [] } : Act).eval (.tmp 18) = .slice al pots.length cl := by simpa [go_sem] using h2'
          obtain ⟨v', X', hrun, ho2, hb2, hnew, hzero⟩ := copy_new (P := Try.prog) (W := X) (B := W.heap.size) 24 24 i0 _ Try.underlying24 hi hz0 hz1 hz2 rfl ho1 hb.size (hl.mono hb) (by omega)
          refine wp_val (v := v') (X' := X') (by unfold execOp; simp only [resolve, invoke, builtin, Sem.run_bind, Sem.run_pure, Result.andThen_ok, List.map_toArray, List.map_cons, List.map_nil, hE0, hE1, hrun]) ⟨_, by simp [Act.put, upd], hb.trans (hb2.mono hb.size), ho2, hb2, fun b h => by
            obtain ⟨h0, h⟩ := mkc_13 h
            have h9 := hnew h0
            rw [h9.1] at h
            cases h
            exact ⟨Nat.le_refl _, h9.2⟩⟩
        | 14, _ =>
          simp at ho
          subst ho
          simp at hd
          obtain ⟨h3, h5, h9, h13⟩ := hd
          have h5' : s 5 = .int .i64 tot := h5
          refine wp_val (v := .agg #[s 3, .int .i64 tot, s 9, s 13]) (X' := X) ?ev14 ⟨_, by simp [Act.put, upd], hb, ⟨s 3, s 9, s 13, rfl, h3, h9.1, h13, h9.2, fun h0 => ⟨fun h1 e => ?d1, fun h1 e => ?d2⟩⟩, Below.refl _ _, fun b h => by simp [mkc] at h⟩
          case d1 =>
            obtain ⟨g, cap, e9, _⟩ := h9.1.form h0
            have hb9 : (s 9).ownBlock = some g := by rw [e9]; rfl
            exact hne ⟨3, .data⟩ (by simp) ⟨9, .data⟩ (by simp) (by decide) g (by simp [mkc, h1, e, hb9]) (by simp [mkc, h0, hb9])
          case d2 =>
            obtain ⟨g, cap, e9, _⟩ := h9.1.form h0
            have hb9 : (s 9).ownBlock = some g := by rw [e9]; rfl
            exact hne ⟨13, .data⟩ (by simp) ⟨9, .data⟩ (by simp) (by decide) g (by simp [mkc, h1, e, hb9]) (by simp [mkc, h0, hb9])
          case ev14 =>
            obtain ⟨a1, n1, k1, e1⟩ := own_shape h3
            obtain ⟨a2, n2, k2, e2⟩ := own_shape h9.1
            obtain ⟨a3, n3, k3, e3⟩ := own_shape h13
            simp [execOp, go_sem, h5', e1, e2, e3]
        | 15, _ =>
          simp at ho
          subst ho
          refine wp_val (v := .pointer (some ⟨X.heap.size, 0, none⟩)) (X' := X.alloc (.cells #[.slice none 0 0, .int .i64 0, .slice none 0 0, .slice none 0 0] 32)) (by simp [execOp, go_sem]) ⟨_, by simp [Act.put, upd], hb.alloc hb.size _, ⟨X.heap.size, rfl, hb.size, BoxC.new _ _ _⟩, (Below.refl _ X).alloc (Nat.le_refl _) _, fun b h => by simp [mkc] at h⟩
        | k + 16, h => exact absurd h (by omega)
  case tail =>
    intro o ho s X hb hS _ _
    simp at ho
    subst ho
    obtain ⟨v1, v2, v3, h14, o1, o2, o3, hD⟩ : ∃ v1 v2 v3, s 14 = .agg #[v1, .int .i64 tot, v2, v3] ∧ OwnI W.heap.size cs v1 X ∧ OwnI W.heap.size rows v2 X ∧ OwnI W.heap.size pots v3 X ∧ ChD cs rows pots v1 v2 v3 := hS 14 (by omega)
    obtain ⟨b, h15, hbb, hbo⟩ : ∃ b, s 15 = .pointer (some ⟨b, 0, none⟩) ∧ W.heap.size ≤ b ∧ BoxC X b 32 #[.slice none 0 0, .int .i64 0, .slice none 0 0, .slice none 0 0] := hS 15 (by omega)
    obtain ⟨q1, n1, k1, rfl⟩ := own_shape o1
    obtain ⟨q2, n2, k2, rfl⟩ := own_shape o2
    obtain ⟨q3, n3, k3, rfl⟩ := own_shape o3
    have z0 := hbo.cell 0 rfl
    have z1 := hbo.cell 1 rfl
    have z2 := hbo.cell 2 rfl
    have z3 := hbo.cell 3 rfl
    have y0 := hbo.frozen 0
    have y1 := hbo.frozen 1
    have y2 := hbo.frozen 2
    have y3 := hbo.frozen 3
    have hne : ∀ {v : Value} {xs : List Int}, OwnI W.heap.size xs v X → some b ≠ v.ownBlock := fun h => boxC_not_row hbo (by decide) h
    have hg := grownBy_trans (grownBy_trans (grownBy_trans (grownBy_setCell X ⟨b, 0, none⟩ (.slice q1 n1 k1)) (grownBy_setCell _ ⟨b, 1, none⟩ (.int .i64 tot))) (grownBy_setCell _ ⟨b, 2, none⟩ (.slice q2 n2 k2))) (grownBy_setCell _ ⟨b, 3, none⟩ (.slice q3 n3 k3))
    have r1 := ownsRow_kept o1 hg (fun g h e => hne o1 (by rw [h]; exact e))
    have r2 := ownsRow_kept o2 hg (fun g h e => hne o2 (by rw [h]; exact e))
    have r3 := ownsRow_kept o3 hg (fun g h e => hne o3 (by rw [h]; exact e))
    have hX := (((hb.setCell (p := ⟨b, 0, none⟩) hbb (.slice q1 n1 k1)).setCell (p := ⟨b, 1, none⟩) hbb (.int .i64 tot)).setCell (p := ⟨b, 2, none⟩) hbb (.slice q2 n2 k2)).setCell (p := ⟨b, 3, none⟩) hbb (.slice q3 n3 k3)
    have bq := hbo.put4 (.slice q1 n1 k1) (.int .i64 tot) (.slice q2 n2 k2) (.slice q3 n3 k3)
    refine wp_skip (X' := (((X.setCell ⟨b, 0, none⟩ (.slice q1 n1 k1)).setCell ⟨b, 1, none⟩ (.int .i64 tot)).setCell ⟨b, 2, none⟩ (.slice q2 n2 k2)).setCell ⟨b, 3, none⟩ (.slice q3 n3 k3)) (by simp [execOp, go_sem, h14, h15, z0, z1, z2, z3, y0, y1, y2, y3])
      ⟨rfl, b, s 0, s 1, s 2, s 3, s 4, s 5, s 6, s 7, s 8, s 9, s 10, s 11, s 12, s 13, s 14, _, _, _, by simp [Act.put, h15], bq, hbb, r1, r2, r3, hX, hD⟩
  case post1 =>
    rintro e a X ⟨rfl, b, x0, x1, x2, x3, x4, x5, x6, x7, x8, x9, x10, x11, x12, x13, x14, v1, v2, v3, rfl, hbo, hbb, o1, o2, o3, hX, hD⟩
    obtain ⟨q1, n1, k1, rfl⟩ := own_shape o1
    obtain ⟨q2, n2, k2, rfl⟩ := own_shape o2
    obtain ⟨q3, n3, k3, rfl⟩ := own_shape o3
    have hw2 := b2.lt
    have hXs := hX.size
    have hS : ChS w a0 b (.slice q1 n1 k1) (.slice q2 n2 k2) (.slice q3 n3 k3) tot cs rows pots X := ⟨hbo, b2.grown hX, ownsRow_num o1, ownsRow_num o2, ownsRow_num o3, fun g h => by have := ownsRow_low o1 g h; omega, fun g h => by have := ownsRow_low o2 g h; omega, fun g h => by have := ownsRow_low o3 g h; omega, by omega, by rw [← ha0]; exact hB.trans (hX.mono hB.size)⟩
    have b1X := b1.grown hX
    have d0 := b1X.cell 0 rfl
    have d1 := b1X.cell 1 rfl
    have d2 := b1X.cell 2 rfl
    have hlow : a0 ≤ X.heap.size := by omega
    have hu0 : 0 ≤ IntKind.u64.wrap sa := by rw [IntKind.wrap_u64]; omega
    obtain ⟨r, hrr, hr6⟩ : ∃ r : Nat, (IntKind.u64.wrap sa).tmod 6 = (r : Int) ∧ r < 6 := by
      have h1 := Int.tmod_nonneg (6 : Int) hu0
      have h2 := Int.tmod_lt_of_pos (IntKind.u64.wrap sa) (show (0 : Int) < 6 by omega)
      exact ⟨((IntKind.u64.wrap sa).tmod 6).toNat, by omega, by omega⟩
    replace ha0 := Lib.hid ha0
    replace hB := Lib.hid hB
    replace hX := Lib.hid hX
    clear b0 b1 b2 hc hr hl hbx hlt0 hu0
    have c0 := hbo.cell 0 rfl
    have c1 := hbo.cell 1 rfl
    have c2 := hbo.cell 2 rfl
    have c3 := hbo.cell 3 rfl
    have f1 := hbo.frozen 1
    have f2 := hbo.frozen 2
    match r, hr6 with
    | 0, _ =>
      have hpt := put_any _ W.heap.size cs sa sb sc X o1 (by omega) hXs
      replace hpt := Lib.hid hpt
      replace o1 := Lib.hid o1
      replace o2 := Lib.hid o2
      replace o3 := Lib.hid o3
      go_wp2_with fail
      refine hpt.out.mono ?_
      rintro e X2 ⟨rfl, hT⟩
      obtain ⟨cs2, rows2, pots2, hS2⟩ := hS.tame hT (by omega)
      clear hpt hS hT
      obtain ⟨mz, m1, m2, m3, m4⟩ := hS2.end'
      have z0 := hS2.bx.cell 0 rfl
      have z1 := hS2.bx.cell 1 rfl
      have z2 := hS2.bx.cell 2 rfl
      have z3 := hS2.bx.cell 3 rfl
      have g0 := hS2.rb.cell 0 rfl
      have g1 := hS2.rb.cell 1 rfl
      have g2 := hS2.rb.cell 2 rfl
      have g3 := hS2.rb.cell 3 rfl
      have y0 := hS2.rb.frozen 0
      have y1 := hS2.rb.frozen 1
      have y2 := hS2.rb.frozen 2
      have y3 := hS2.rb.frozen 3
      have hrl := hS2.rl
      clear hS2
      go_wp2
      have e0 := mz.cell 0 rfl
      have e1 := mz.cell 1 rfl
      have e2 := mz.cell 2 rfl
      have e3 := mz.cell 3 rfl
      exact bodyPost_ret (v := resB _ _ _ _) (by simp [results, Try.results28, go_sem, e0, e1, e2, e3]; rfl) rfl ⟨_, _, _, _, _, _, _, rfl, m1, m2, m3, hrl, by rw [ha0.out]; exact m4⟩
    | 1, _ =>
      obtain ⟨z, hz, hz'⟩ : ∃ z, wrap64 (tot + sc) = z ∧ IntKind.i64.wrap (tot + sc) = z := ⟨_, rfl, (wrap_i64' _)⟩
      have hS2 := hS.sum z (by omega) (boxC_not_row hbo (by decide) o1) (boxC_not_row hbo (by decide) o2) (boxC_not_row hbo (by decide) o3)
      replace o1 := Lib.hid o1
      replace o2 := Lib.hid o2
      replace o3 := Lib.hid o3
      clear hS
      obtain ⟨mz, m1, m2, m3, m4⟩ := hS2.end'
      have z0 := hS2.bx.cell 0 rfl
      have z1 := hS2.bx.cell 1 rfl
      have z2 := hS2.bx.cell 2 rfl
      have z3 := hS2.bx.cell 3 rfl
      have g0 := hS2.rb.cell 0 rfl
      have g1 := hS2.rb.cell 1 rfl
      have g2 := hS2.rb.cell 2 rfl
      have g3 := hS2.rb.cell 3 rfl
      have y0 := hS2.rb.frozen 0
      have y1 := hS2.rb.frozen 1
      have y2 := hS2.rb.frozen 2
      have y3 := hS2.rb.frozen 3
      have hrl := hS2.rl
      clear hS2
      go_wp2
      have e0 := mz.cell 0 rfl
      have e1 := mz.cell 1 rfl
      have e2 := mz.cell 2 rfl
      have e3 := mz.cell 3 rfl
      exact bodyPost_ret (v := resB _ _ _ _) (by simp [results, Try.results28, go_sem, e0, e1, e2, e3]; rfl) rfl ⟨_, _, _, _, _, _, _, rfl, m1, m2, m3, hrl, by rw [ha0.out]; exact m4⟩
    | 2, _ =>
      have hpt := put_any _ W.heap.size rows sa sb sc X o2 (by omega) hXs
      replace hpt := Lib.hid hpt
      replace o1 := Lib.hid o1
      replace o2 := Lib.hid o2
      replace o3 := Lib.hid o3
      go_wp2_with fail
      refine hpt.out.mono ?_
      rintro e X2 ⟨rfl, hT⟩
      obtain ⟨cs2, rows2, pots2, hS2⟩ := hS.tame hT (by omega)
      clear hpt hS hT
      obtain ⟨mz, m1, m2, m3, m4⟩ := hS2.end'
      have z0 := hS2.bx.cell 0 rfl
      have z1 := hS2.bx.cell 1 rfl
      have z2 := hS2.bx.cell 2 rfl
      have z3 := hS2.bx.cell 3 rfl
      have g0 := hS2.rb.cell 0 rfl
      have g1 := hS2.rb.cell 1 rfl
      have g2 := hS2.rb.cell 2 rfl
      have g3 := hS2.rb.cell 3 rfl
      have y0 := hS2.rb.frozen 0
      have y1 := hS2.rb.frozen 1
      have y2 := hS2.rb.frozen 2
      have y3 := hS2.rb.frozen 3
      have hrl := hS2.rl
      clear hS2
      go_wp2
      have e0 := mz.cell 0 rfl
      have e1 := mz.cell 1 rfl
      have e2 := mz.cell 2 rfl
      have e3 := mz.cell 3 rfl
      exact bodyPost_ret (v := resB _ _ _ _) (by simp [results, Try.results28, go_sem, e0, e1, e2, e3]; rfl) rfl ⟨_, _, _, _, _, _, _, rfl, m1, m2, m3, hrl, by rw [ha0.out]; exact m4⟩
    | 3, _ =>
      have hpt := put_any _ W.heap.size pots sa sb sc X o3 (by omega) hXs
      replace hpt := Lib.hid hpt
      replace o1 := Lib.hid o1
      replace o2 := Lib.hid o2
      replace o3 := Lib.hid o3
      go_wp2_with fail
      refine hpt.out.mono ?_
      rintro e X2 ⟨rfl, hT⟩
      obtain ⟨cs2, rows2, pots2, hS2⟩ := hS.tame hT (by omega)
      clear hpt hS hT
      obtain ⟨mz, m1, m2, m3, m4⟩ := hS2.end'
      have z0 := hS2.bx.cell 0 rfl
      have z1 := hS2.bx.cell 1 rfl
      have z2 := hS2.bx.cell 2 rfl
      have z3 := hS2.bx.cell 3 rfl
      have g0 := hS2.rb.cell 0 rfl
      have g1 := hS2.rb.cell 1 rfl
      have g2 := hS2.rb.cell 2 rfl
      have g3 := hS2.rb.cell 3 rfl
      have y0 := hS2.rb.frozen 0
      have y1 := hS2.rb.frozen 1
      have y2 := hS2.rb.frozen 2
      have y3 := hS2.rb.frozen 3
      have hrl := hS2.rl
      clear hS2
      go_wp2
      have e0 := mz.cell 0 rfl
      have e1 := mz.cell 1 rfl
      have e2 := mz.cell 2 rfl
      have e3 := mz.cell 3 rfl
      exact bodyPost_ret (v := resB _ _ _ _) (by simp [results, Try.results28, go_sem, e0, e1, e2, e3]; rfl) rfl ⟨_, _, _, _, _, _, _, rfl, m1, m2, m3, hrl, by rw [ha0.out]; exact m4⟩
    | 4, _ =>
      have hA1 := (Below.refl X.heap.size X).alloc (Nat.le_refl _) (.cells #[.int .i64 sc] 3)
      have hN1 := BoxC.new X 3 #[.int .i64 sc]
      have hns : NumSl .i64 (X.alloc (.cells #[.int .i64 sc] 3)) (.slice (some ⟨X.heap.size, 0, none⟩) 1 1) [sc] := by
        refine .inr ⟨X.heap.size, 0, 1, rfl, fun i hi => ?_⟩
        match i, hi with
        | 0, _ => exact hN1.cell 0 rfl
      have p2 := OwnI.below o2 hA1
      have g1 : some b ≠ Value.ownBlock (.slice q1 n1 k1) := boxC_not_row hbo (by decide) o1
      have g3 : some b ≠ Value.ownBlock (.slice q3 n3 k3) := boxC_not_row hbo (by decide) o3
      have hbA := hbo.grown hA1
      have g2 : some b ≠ Value.ownBlock (.slice q2 n2 k2) := boxC_not_row hbA (by decide) p2
      have hlo2 := ownsRow_low o2
      replace o1 := Lib.hid o1
      replace o3 := Lib.hid o3
      replace hlo2 := Lib.hid hlo2
      replace g1 := Lib.hid g1
      replace g2 := Lib.hid g2
      replace g3 := Lib.hid g3
      rcases Nat.eq_zero_or_pos rows.length with h0 | h0
      · obtain ⟨gg, hgg⟩ := hD.1 h0
        cases hgg
        have p2' : (X.alloc (.cells #[.int .i64 sc] 3)).ownsRow W.heap.size 3 1 (.slice (some ⟨gg, 0, none⟩) 0 0) 0 [] := by
          have hrows : rows = [] := List.eq_nil_of_length_eq_zero h0
          subst hrows
          exact p2
        obtain ⟨v', X2, hrun, hown, hb2, hnew, _⟩ := copy_new (P := Try.prog) (W := X.alloc (.cells #[.int .i64 sc] 3)) (B := W.heap.size) 24 24 i0 _ Try.underlying24 hi hz0 hz1 hz2 rfl p2' (by simp; omega) hns (by simp)
        obtain ⟨g, cap, rfl, hgl, hgs⟩ := hown.form (by simp)
        have hbq := hbA.grown hb2
        have hge := (hnew (by simp)).1
        have hS2 := hS.rows' (u2' := .slice (some ⟨g, 0, none⟩) 1 cap) (rows2 := [sc]) (row := none) (below_grown (hA1.trans (hb2.mono hA1.size))) (fun g e => by cases e) (by omega) hlow (by simp) (ownsRow_num hown) (own_gt (by omega)) g1.out (boxC_not_row hbq (by decide) hown) g3.out (fun _ => .inr rfl) (fun _ => .inr rfl) (by simp)
        have hrq := hS.rb.grown (hA1.trans (hb2.mono hA1.size))
        have c0' := hbq.cell 0 rfl
        have c1' := hbq.cell 1 rfl
        have c2' := hbq.cell 2 rfl
        have c3' := hbq.cell 3 rfl
        have f2' := hbq.frozen 2
        have kk0 := hrq.cell 0 rfl
        have kk1 := hrq.cell 1 rfl
        have kk2 := hrq.cell 2 rfl
        have kk3 := hrq.cell 3 rfl
        have jj0 := hrq.frozen 0
        have jj1 := hrq.frozen 1
        have jj2 := hrq.frozen 2
        have jj3 := hrq.frozen 3
        replace o2 := Lib.hid o2
        clear hS p2 p2' hnew hge hown
        go_wp2_with (at_builtin; refine Lib.wpList_append_run _ rfl _ _ _ _ rfl _ _ rfl rfl _ _ hrun ?_)
        obtain ⟨mz, m1, m2, m3, m4⟩ := hS2.end'
        have z0 := hS2.bx.cell 0 rfl
        have z1 := hS2.bx.cell 1 rfl
        have z2 := hS2.bx.cell 2 rfl
        have z3 := hS2.bx.cell 3 rfl
        have gg0 := hS2.rb.cell 0 rfl
        have gg1 := hS2.rb.cell 1 rfl
        have gg2 := hS2.rb.cell 2 rfl
        have gg3 := hS2.rb.cell 3 rfl
        have y0 := hS2.rb.frozen 0
        have y1 := hS2.rb.frozen 1
        have y2 := hS2.rb.frozen 2
        have y3 := hS2.rb.frozen 3
        have hrl := hS2.rl
        clear hS2
        go_wp2
        have e0 := mz.cell 0 rfl
        have e1 := mz.cell 1 rfl
        have e2 := mz.cell 2 rfl
        have e3 := mz.cell 3 rfl
        exact bodyPost_ret (v := resB _ _ _ _) (by simp [results, Try.results28, go_sem, e0, e1, e2, e3]; rfl) rfl ⟨_, _, _, _, _, _, _, rfl, m1, m2, m3, hrl, by rw [ha0.out]; exact m4⟩
      · obtain ⟨e1, e3⟩ := hD.2 h0
        have hXA := below_row hA1 (Value.slice q2 n2 k2).ownBlock
        have hSr := hS.rb.grown hA1
        have hgl2 : ∀ q : Nat, (Value.slice q2 n2 k2).ownBlock = some q → a0 + 1 + 1 < q := fun q e => by have := hlo2.out q e; omega
        have hrne : some (a0 + 1 + 1) ≠ (Value.slice q2 n2 k2).ownBlock := fun e => by have := hgl2 _ e.symm; omega
        replace hgl2 := Lib.hid hgl2
        replace hrne := Lib.hid hrne
        replace e1 := Lib.hid e1
        replace e3 := Lib.hid e3
        have h3W : a0 + 1 + 1 < W.heap.size := hw2
        go_wp2_with (at_builtin; refine wpList_app _ rfl _ _ 24 rfl W.heap.size i0 _ Try.underlying24 hi hz0 hz1 hz2 rfl _ _ rows rfl p2 _ [sc] rfl hns (by simp; omega) (by simp; omega) ?_; intro v' X2 hown hgr; obtain ⟨g, cap, rfl, hgl, hgs⟩ := hown.form (by simp); have hbq := hbA.kept hgr g2.out; have hrq := hSr.kept hgr hrne.out; have c0' := hbq.cell 0 rfl; have c1' := hbq.cell 1 rfl; have c2' := hbq.cell 2 rfl; have c3' := hbq.cell 3 rfl; have f2' := hbq.frozen 2; have kk0 := hrq.cell 0 rfl; have kk1 := hrq.cell 1 rfl; have kk2 := hrq.cell 2 rfl; have kk3 := hrq.cell 3 rfl; have jj0 := hrq.frozen 0; have jj1 := hrq.frozen 1; have jj2 := hrq.frozen 2; have jj3 := hrq.frozen 3)
        have hS2 := hS.rows' (u2' := .slice (some ⟨g, 0, none⟩) (rows.length + 1) cap) (rows2 := rows ++ [sc]) (row := (Value.slice q2 n2 k2).ownBlock) (grownBy_trans hXA hgr) hgl2.out (by omega) hlow g2.out (ownsRow_num (by simpa using hown)) (own_gt (by omega)) g1.out (boxC_not_row hbq (by decide) hown) g3.out (fun h => .inl (e1.out h)) (fun h => .inl (e3.out h)) (by simp; omega)
        obtain ⟨mz, m1, m2, m3, m4⟩ := hS2.end'
        have hrl := hS2.rl
        have e0' := mz.cell 0 rfl
        have e1' := mz.cell 1 rfl
        have e2' := mz.cell 2 rfl
        have e3' := mz.cell 3 rfl
        exact bodyPost_ret (v := resB _ _ _ _) (by simp [results, Try.results28, go_sem, e0', e1', e2', e3']; rfl) rfl ⟨_, _, _, _, _, _, _, rfl, m1, m2, m3, hrl, by rw [ha0.out]; exact m4⟩
    | 5, _ =>
      replace o1 := Lib.hid o1
      replace o2 := Lib.hid o2
      replace o3 := Lib.hid o3
      have hS2 := hS
      clear hS
      obtain ⟨mz, m1, m2, m3, m4⟩ := hS2.end'
      have z0 := hS2.bx.cell 0 rfl
      have z1 := hS2.bx.cell 1 rfl
      have z2 := hS2.bx.cell 2 rfl
      have z3 := hS2.bx.cell 3 rfl
      have g0 := hS2.rb.cell 0 rfl
      have g1 := hS2.rb.cell 1 rfl
      have g2 := hS2.rb.cell 2 rfl
      have g3 := hS2.rb.cell 3 rfl
      have y0 := hS2.rb.frozen 0
      have y1 := hS2.rb.frozen 1
      have y2 := hS2.rb.frozen 2
      have y3 := hS2.rb.frozen 3
      have hrl := hS2.rl
      clear hS2
      go_wp2
      have e0 := mz.cell 0 rfl
      have e1 := mz.cell 1 rfl
      have e2 := mz.cell 2 rfl
      have e3 := mz.cell 3 rfl
      exact bodyPost_ret (v := resB _ _ _ _) (by simp [results, Try.results28, go_sem, e0, e1, e2, e3]; rfl) rfl ⟨_, _, _, _, _, _, _, rfl, m1, m2, m3, hrl, by rw [ha0.out]; exact m4⟩
    | r + 6, h => exact absurd h (by omega)
end Go.Proofs.Ytoendfpfnfeccaa
