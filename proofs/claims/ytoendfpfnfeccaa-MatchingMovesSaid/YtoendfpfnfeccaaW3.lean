/- What the loops of solve keep in memory. No walk. Conditions: none. -/
import Derived.Test.YtoendfpfnfeccaaW2
import Derived.Test.YtoendfpfnfeccaaMade
namespace Go.Proofs.Ytoendfpfnfeccaa
open Go.RowKit Go.Shelf

abbrev rowS (g n : Nat) : Value := .slice (some ⟨g, 0, none⟩) n n
/-- the rows of solve -/
structure SvI (w : World) (n m gu gv go gw : Nat) (us vs os ws : List Int) (X : World) : Prop where
  b2 : BoxC X w.heap.size 32 #[.slice none 0 0, .int .i64 0, .slice none 0 0, .slice none 0 0]
  u : RowG w.heap.size gu (rowS gu (n + 1)) (n + 1) us X
  v : RowG w.heap.size gv (rowS gv (m + 1)) (m + 1) vs X
  o : RowG w.heap.size go (rowS go (m + 1)) (m + 1) os X
  r : RowG w.heap.size gw (rowS gw (m + 1)) (m + 1) ws X
  bl : Below w.heap.size w X
structure SvS (gu gv go gw : Nat) : Prop where
  uv : gu ≠ gv
  uo : gu ≠ go
  ur : gu ≠ gw
  vo : gv ≠ go
  vr : gv ≠ gw
  or : go ≠ gw
section
variable {w : World} {n m gu gv go gw : Nat} {us vs os ws : List Int} {X Y : World}
theorem SvI.below (h : SvI w n m gu gv go gw us vs os ws X) (hb : Below X.heap.size X Y) : SvI w n m gu gv go gw us vs os ws Y :=
  ⟨h.b2.grown hb, h.u.grown hb, h.v.grown hb, h.o.grown hb, h.r.grown hb, h.bl.trans (hb.mono h.bl.size)⟩
theorem SvI.drew (h : SvI w n m gu gv go gw us vs os ws X) : SvI w n m gu gv go gw us vs os ws X.drew := ⟨h.b2, h.u, h.v, h.o, h.r, h.bl.drew⟩
theorem SvI.drewN (h : SvI w n m gu gv go gw us vs os ws X) (q : Nat) : SvI w n m gu gv go gw us vs os ws (X.drewN q) := ⟨h.b2, h.u, h.v, h.o, h.r, below_drewN h.bl q⟩
theorem SvI.setU (S : SvS gu gv go gw) (h : SvI w n m gu gv go gw us vs os ws X) (i : Nat) (z : Int) : SvI w n m gu gv go gw (us.set i z) vs os ws (X.setCell ⟨gu, i, none⟩ (.int .i64 z)) :=
  ⟨h.b2.other (h.u.ne_box h.b2 (by decide) (by omega)) _, h.u.set i z, h.v.other (fun _ => S.uv) _, h.o.other (fun _ => S.uo) _, h.r.other (fun _ => S.ur) _, h.bl.setCell (h.u.lt (by omega)).1 _⟩
theorem SvI.setV (S : SvS gu gv go gw) (h : SvI w n m gu gv go gw us vs os ws X) (i : Nat) (z : Int) : SvI w n m gu gv go gw us (vs.set i z) os ws (X.setCell ⟨gv, i, none⟩ (.int .i64 z)) :=
  ⟨h.b2.other (h.v.ne_box h.b2 (by decide) (by omega)) _, h.u.other (fun _ => S.uv.symm) _, h.v.set i z, h.o.other (fun _ => S.vo) _, h.r.other (fun _ => S.vr) _, h.bl.setCell (h.v.lt (by omega)).1 _⟩
theorem SvI.setO (S : SvS gu gv go gw) (h : SvI w n m gu gv go gw us vs os ws X) (i : Nat) (z : Int) : SvI w n m gu gv go gw us vs (os.set i z) ws (X.setCell ⟨go, i, none⟩ (.int .i64 z)) :=
  ⟨h.b2.other (h.o.ne_box h.b2 (by decide) (by omega)) _, h.u.other (fun _ => S.uo.symm) _, h.v.other (fun _ => S.vo.symm) _, h.o.set i z, h.r.other (fun _ => S.or) _, h.bl.setCell (h.o.lt (by omega)).1 _⟩
theorem SvI.setR (S : SvS gu gv go gw) (h : SvI w n m gu gv go gw us vs os ws X) (i : Nat) (z : Int) : SvI w n m gu gv go gw us vs os (ws.set i z) (X.setCell ⟨gw, i, none⟩ (.int .i64 z)) :=
  ⟨h.b2.other (h.r.ne_box h.b2 (by decide) (by omega)) _, h.u.other (fun _ => S.ur.symm) _, h.v.other (fun _ => S.vr.symm) _, h.o.other (fun _ => S.or.symm) _, h.r.set i z, h.bl.setCell (h.r.lt (by omega)).1 _⟩
end
/-- and what lies there while a row is added -/
structure SvP (w : World) (n m gu gv go gw gl gd : Nat) (us vs os ws les : List Int) (ds : List Bool) (X : World) : Prop where
  i : SvI w n m gu gv go gw us vs os ws X
  l : RowG w.heap.size gl (rowS gl (m + 1)) (m + 1) les X
  d : RowB w.heap.size gd (rowS gd (m + 1)) (m + 1) ds X
structure SvT (gu gv go gw gl gd : Nat) : Prop where
  s : SvS gu gv go gw
  ul : gu ≠ gl
  vl : gv ≠ gl
  ol : go ≠ gl
  rl : gw ≠ gl
  ud : gu ≠ gd
  vd : gv ≠ gd
  od : go ≠ gd
  rd : gw ≠ gd
  ld : gl ≠ gd
section
variable {w : World} {n m gu gv go gw gl gd : Nat} {us vs os ws les : List Int} {ds : List Bool} {X Y : World}
theorem SvP.drew (h : SvP w n m gu gv go gw gl gd us vs os ws les ds X) : SvP w n m gu gv go gw gl gd us vs os ws les ds X.drew := ⟨h.i.drew, h.l, h.d⟩
theorem SvP.drewN (h : SvP w n m gu gv go gw gl gd us vs os ws les ds X) (q : Nat) : SvP w n m gu gv go gw gl gd us vs os ws les ds (X.drewN q) := ⟨h.i.drewN q, h.l, h.d⟩
theorem SvP.setU (S : SvT gu gv go gw gl gd) (h : SvP w n m gu gv go gw gl gd us vs os ws les ds X) (i : Nat) (z : Int) : SvP w n m gu gv go gw gl gd (us.set i z) vs os ws les ds (X.setCell ⟨gu, i, none⟩ (.int .i64 z)) :=
  ⟨h.i.setU S.s i z, h.l.other (fun _ => S.ul) _, h.d.other (fun _ => S.ud) _⟩
theorem SvP.setV (S : SvT gu gv go gw gl gd) (h : SvP w n m gu gv go gw gl gd us vs os ws les ds X) (i : Nat) (z : Int) : SvP w n m gu gv go gw gl gd us (vs.set i z) os ws les ds (X.setCell ⟨gv, i, none⟩ (.int .i64 z)) :=
  ⟨h.i.setV S.s i z, h.l.other (fun _ => S.vl) _, h.d.other (fun _ => S.vd) _⟩
theorem SvP.setO (S : SvT gu gv go gw gl gd) (h : SvP w n m gu gv go gw gl gd us vs os ws les ds X) (i : Nat) (z : Int) : SvP w n m gu gv go gw gl gd us vs (os.set i z) ws les ds (X.setCell ⟨go, i, none⟩ (.int .i64 z)) :=
  ⟨h.i.setO S.s i z, h.l.other (fun _ => S.ol) _, h.d.other (fun _ => S.od) _⟩
theorem SvP.setR (S : SvT gu gv go gw gl gd) (h : SvP w n m gu gv go gw gl gd us vs os ws les ds X) (i : Nat) (z : Int) : SvP w n m gu gv go gw gl gd us vs os (ws.set i z) les ds (X.setCell ⟨gw, i, none⟩ (.int .i64 z)) :=
  ⟨h.i.setR S.s i z, h.l.other (fun _ => S.rl) _, h.d.other (fun _ => S.rd) _⟩
theorem SvP.setL (S : SvT gu gv go gw gl gd) (h : SvP w n m gu gv go gw gl gd us vs os ws les ds X) (i : Nat) (z : Int) : SvP w n m gu gv go gw gl gd us vs os ws (les.set i z) ds (X.setCell ⟨gl, i, none⟩ (.int .i64 z)) :=
  ⟨⟨h.i.b2.other (h.l.ne_box h.i.b2 (by decide) (by omega)) _, h.i.u.other (fun _ => S.ul.symm) _, h.i.v.other (fun _ => S.vl.symm) _, h.i.o.other (fun _ => S.ol.symm) _, h.i.r.other (fun _ => S.rl.symm) _, h.i.bl.setCell (h.l.lt (by omega)).1 _⟩, h.l.set i z, h.d.other (fun _ => S.ld) _⟩
theorem SvP.setD (S : SvT gu gv go gw gl gd) (h : SvP w n m gu gv go gw gl gd us vs os ws les ds X) (i : Nat) (z : Bool) : SvP w n m gu gv go gw gl gd us vs os ws les (ds.set i z) (X.setCell ⟨gd, i, none⟩ (.bool z)) :=
  ⟨⟨h.i.b2.other (h.d.ne_box h.i.b2 (by decide) (by omega)) _, h.i.u.other (fun _ => S.ud.symm) _, h.i.v.other (fun _ => S.vd.symm) _, h.i.o.other (fun _ => S.od.symm) _, h.i.r.other (fun _ => S.rd.symm) _, h.i.bl.setCell (h.d.lt (by omega)).1 _⟩, h.l.other (fun _ => S.ld.symm) _, h.d.set i z⟩
end

theorem SlSl.lenN {w : World} {v : Value} {css : List (List Int)} {n : Nat} (h : SlSl w v css) (hl : css.length = n) : ∃ a cap, v = .slice a n cap := by subst hl; exact h.len
theorem SlSl.atN {w : World} {v : Value} {css : List (List Int)} {n : Nat} (h : SlSl w v css) (hl : css.length = n) {k : Nat} (hk : k < n) : ∃ b off cap, v = .slice (some ⟨b, off, none⟩) n cap ∧ b < w.heap.size ∧
    ∀ i, i < n → ∃ u, w.cell? ⟨b, off + i, none⟩ = some u ∧ NumSl .i64 w u (nths css i) := by subst hl; exact h.at hk
theorem rowG_new {base n : Nat} {X : World} (hm : n ≤ 1000) (hb : base ≤ X.heap.size) : RowG base X.heap.size (rowS X.heap.size n) n (zeros n) (X.alloc (.cells (madeCells #[.int .i64 0] n) 3)) :=
  ⟨zeros_len n, fun _ => ⟨n, rfl, by simp [zeros], .inr ⟨X.heap.size, n, _, rfl, hb, World.alloc_heap_new X _, Nat.le_refl _, by unfold maxLen; omega, by simp [size_madeCells], by rw [toList_madeCells_one]; simp [zeros]⟩⟩⟩
def falses (n : Nat) : List Bool := List.replicate n false
theorem falses_len (n : Nat) : (falses n).length = n := by simp [falses]
theorem nthb_falses (n k : Nat) : nthb (falses n) k = false := by
  unfold nthb falses
  rw [List.getElem?_replicate]
  split <;> rfl
theorem info4 : (Try.prog.info? 4).map (fun i => (i.zero, i.size, i.bytes)) = some (some (.bool false), 1, 1) := by kernel_rfl
theorem rowB_new {base n : Nat} {X : World} (hm : n ≤ 1000) (hb : base ≤ X.heap.size) : RowB base X.heap.size (rowS X.heap.size n) n (falses n) (X.alloc (.cells (madeCells #[.bool false] n) 4)) :=
  ⟨falses_len n, fun _ => ⟨n, rfl, by simp [falses], .inr ⟨X.heap.size, n, _, rfl, hb, World.alloc_heap_new X _, Nat.le_refl _, by unfold maxLen; omega, by simp [size_madeCells], by rw [toList_madeCells_one]; simp [falses]⟩⟩⟩
theorem run_make51 (n : Nat) (hn : n ≤ 1000) (X : World) : (Instr.makeSlice 51 (.int .i64 (n : Int)) (.int .i64 (n : Int))).run Try.prog X = .ok (rowS X.heap.size n) (X.alloc (.cells (madeCells #[.bool false] n) 4)) := by
  obtain ⟨i0, hi, hz0, hz1, hz2⟩ := info_parts info4
  have := run_make (P := Try.prog) X 51 4 i0 (.bool false) Try.underlying51 hi hz0 .i64 .i64 n n (by omega) (by omega) (by rw [hz2]; omega) (by omega)
  rw [hz1] at this
  simpa [Value.cells] using this
end Go.Proofs.Ytoendfpfnfeccaa
