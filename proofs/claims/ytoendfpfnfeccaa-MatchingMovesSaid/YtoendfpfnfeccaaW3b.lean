/- What the last loop of solve keeps in memory, and what solve returns. No walk. Conditions: none. -/
import Derived.Test.YtoendfpfnfeccaaW3
import Derived.Test.YtoendfpfnfeccaaP6
namespace Go.Proofs.Ytoendfpfnfeccaa
open Go.RowKit Go.Shelf

/-- a row of n + 1 cells but for its first -/
def off1 (g n : Nat) : Option Addr := if n = 0 then some ⟨g, 0, none⟩ else some ⟨g, 1, none⟩
abbrev cut1 (g n : Nat) : Value := .slice (off1 g n) n n
def resV (gc gu gv n m : Nat) (tot : Int) : Value := .agg #[rowS gc n, .int .i64 tot, cut1 gu n, cut1 gv m]
/-- where the result lies -/
structure SolMem (w : World) (n m gc gu gv : Nat) (cs us vs : List Int) (X : World) : Prop where
  c : RowG w.heap.size gc (rowS gc n) n cs X
  u : RowG w.heap.size gu (rowS gu (n + 1)) (n + 1) us X
  v : RowG w.heap.size gv (rowS gv (m + 1)) (m + 1) vs X
  cu : gc ≠ gu
  cv : gc ≠ gv
  uv : gu ≠ gv
  bl : Below w.heap.size w X
/-- what it says -/
structure SolSays (css : List (List Int)) (n m : Nat) (cs us vs : List Int) (tot : Int) : Prop where
  ok : SolveOk n m (fun r k => nth (nths css r) k) 1000000000 (fun r => (nth cs r).toNat) tot (fun r => nth us (r + 1)) (fun k => nth vs (k + 1))
  nn : ∀ r, r < n → 0 ≤ nth cs r
def SolPost (css : List (List Int)) (n m : Nat) (w : World) : Ending → World → Prop := fun e X =>
  ∃ gc gu gv tot cs us vs, e = .returned (resV gc gu gv n m tot) ∧ SolMem w n m gc gu gv cs us vs X ∧ Hid (SolSays css n m cs us vs tot)
theorem RowG.tail {base g n : Nat} {us : List Int} {X : World} (h : RowG base g (rowS g (n + 1)) (n + 1) us X) : NumSl .i64 X (cut1 g n) (us.drop 1) := by
  have hl := h.1
  unfold cut1 off1
  rcases Nat.eq_zero_or_pos n with h0 | h0
  · subst h0
    exact .inl ⟨⟨_, _, rfl⟩, List.eq_nil_of_length_eq_zero (by simp; omega)⟩
  · rw [if_neg (by omega)]
    refine .inr ⟨g, 1, n, by simp [hl], fun i hi => ?_⟩
    have hi' : i < n := by simp at hi; omega
    have := h.cell (i := 1 + i) (by omega)
    rw [this]
    congr 2
    unfold nth
    simp [Nat.add_comm]
theorem nth_drop1 (us : List Int) (k : Nat) : nth (us.drop 1) k = nth us (k + 1) := by
  unfold nth
  simp

/-- the last loop -/
structure SvF (w : World) (n m gu gv go gw gc gp : Nat) (us vs os ws cs : List Int) (tot : Int) (X : World) : Prop where
  i : SvI w n m gu gv go gw us vs os ws X
  c : RowG w.heap.size gc (rowS gc n) n cs X
  p : BoxC X gp 32 #[rowS gc n, .int .i64 tot, cut1 gu n, cut1 gv m]
structure SvG (B b2 gu gv go gw gc gp : Nat) : Prop where
  b : b2 < B
  u : gu < B
  v : gv < B
  o : go < B
  r : gw < B
  c : B ≤ gc
  p : B ≤ gp
  cp : gc ≠ gp
section
variable {w : World} {n m gu gv go gw gc gp B : Nat} {us vs os ws cs : List Int} {tot : Int} {X Y : World}
theorem SvI.far (h : SvI w n m gu gv go gw us vs os ws X) {p : Addr} (hB : B ≤ p.block) (hb : w.heap.size < B) (hu : gu < B) (hv : gv < B) (ho : go < B) (hr : gw < B) (u : Value) : SvI w n m gu gv go gw us vs os ws (X.setCell p u) :=
  ⟨h.b2.other (by omega) u, h.u.other (fun _ => by omega) u, h.v.other (fun _ => by omega) u, h.o.other (fun _ => by omega) u, h.r.other (fun _ => by omega) u, h.bl.setCell (by omega) u⟩
theorem SvF.setC (S : SvG B w.heap.size gu gv go gw gc gp) (h : SvF w n m gu gv go gw gc gp us vs os ws cs tot X) (i : Nat) (z : Int) : SvF w n m gu gv go gw gc gp us vs os ws (cs.set i z) tot (X.setCell ⟨gc, i, none⟩ (.int .i64 z)) :=
  ⟨h.i.far (p := ⟨gc, i, none⟩) S.c S.b S.u S.v S.o S.r _, h.c.set i z, h.p.other (fun e => S.cp e.symm) _⟩
theorem SvF.setT (S : SvG B w.heap.size gu gv go gw gc gp) (h : SvF w n m gu gv go gw gc gp us vs os ws cs tot X) (z : Int) : SvF w n m gu gv go gw gc gp us vs os ws cs z (X.setCell ⟨gp, 1, none⟩ (.int .i64 z)) :=
  ⟨h.i.far (p := ⟨gp, 1, none⟩) S.p S.b S.u S.v S.o S.r _, h.c.other (fun _ e => S.cp e.symm) _, h.p.set 1 _⟩
theorem SvF.drewN (h : SvF w n m gu gv go gw gc gp us vs os ws cs tot X) (q : Nat) : SvF w n m gu gv go gw gc gp us vs os ws cs tot (X.drewN q) := ⟨h.i.drewN q, h.c, h.p⟩
theorem SvF.drew (h : SvF w n m gu gv go gw gc gp us vs os ws cs tot X) : SvF w n m gu gv go gw gc gp us vs os ws cs tot X.drew := ⟨h.i.drew, h.c, h.p⟩
/-- the result is stored -/
theorem SvF.result (S : SvG B w.heap.size gu gv go gw gc gp) (h : SvF w n m gu gv go gw gc gp us vs os ws cs tot X) (huv : gu ≠ gv) :
    let Z := (((X.setCell ⟨w.heap.size, 0, none⟩ (rowS gc n)).setCell ⟨w.heap.size, 1, none⟩ (.int .i64 tot)).setCell ⟨w.heap.size, 2, none⟩ (cut1 gu n)).setCell ⟨w.heap.size, 3, none⟩ (cut1 gv m)
    BoxC Z w.heap.size 32 #[rowS gc n, .int .i64 tot, cut1 gu n, cut1 gv m] ∧ SolMem w n m gc gu gv cs us vs Z := by
  have s1 := S.u; have s2 := S.v; have s3 := S.c
  have b1 : 0 < n + 1 → w.heap.size ≠ gu := h.i.u.ne_box h.i.b2 (by decide)
  have b2 : 0 < m + 1 → w.heap.size ≠ gv := h.i.v.ne_box h.i.b2 (by decide)
  have b3 := S.b
  refine ⟨(((h.i.b2.set 0 _).set 1 _).set 2 _).set 3 _, ?_, ?_, ?_, by omega, by omega, huv, (((h.i.bl.setCell (p := ⟨w.heap.size, 0, none⟩) (Nat.le_refl _) _).setCell (p := ⟨w.heap.size, 1, none⟩) (Nat.le_refl _) _).setCell (p := ⟨w.heap.size, 2, none⟩) (Nat.le_refl _) _).setCell (p := ⟨w.heap.size, 3, none⟩) (Nat.le_refl _) _⟩
  · exact (((h.c.other (p := ⟨w.heap.size, 0, none⟩) (fun _ => by show w.heap.size ≠ gc; omega) _).other (p := ⟨w.heap.size, 1, none⟩) (fun _ => by show w.heap.size ≠ gc; omega) _).other (p := ⟨w.heap.size, 2, none⟩) (fun _ => by show w.heap.size ≠ gc; omega) _).other (p := ⟨w.heap.size, 3, none⟩) (fun _ => by show w.heap.size ≠ gc; omega) _
  · exact (((h.i.u.other (p := ⟨w.heap.size, 0, none⟩) b1 _).other (p := ⟨w.heap.size, 1, none⟩) b1 _).other (p := ⟨w.heap.size, 2, none⟩) b1 _).other (p := ⟨w.heap.size, 3, none⟩) b1 _
  · exact (((h.i.v.other (p := ⟨w.heap.size, 0, none⟩) b2 _).other (p := ⟨w.heap.size, 1, none⟩) b2 _).other (p := ⟨w.heap.size, 2, none⟩) b2 _).other (p := ⟨w.heap.size, 3, none⟩) b2 _
end
section
variable {o : Nat → Nat} {c : Nat → Nat → Int} {K : Nat} {tot : Int} {cols : Nat → Int}
/-- the sum is small -/
theorem Fin'.bd (h : Fin' o c K cols tot) {C : Int} (hc : ∀ r k, -C ≤ c r k ∧ c r k ≤ C) : -(K * C) ≤ tot ∧ tot ≤ K * C := by
  rw [h.tot]
  refine sumN_bd K (fun k _ => ?_)
  have := hc (o (k + 1) - 1) k
  split <;> omega
end
end Go.Proofs.Ytoendfpfnfeccaa
