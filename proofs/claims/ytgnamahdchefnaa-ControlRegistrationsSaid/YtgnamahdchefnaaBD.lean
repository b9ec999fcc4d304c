/- A state's box that is turned by one event of the model. Lemmas on worlds. Conditions: none. -/
import Derived.Test.YtgnamahdchefnaaR5
import Derived.Test.YtgnamahdchefnaaB2
import Derived.Test.YtgnamahdchefnaaW7
import Derived.Test.YtgnamahdchefnaaW9
import Derived.Test.YtgnamahdchefnaaDA
import Derived.Laws.BitsAllLaws
import Derived.IntWalk
import Derived.Deep.Cut
namespace Go.Proofs.Ytgnamahdchefnaa
open Go.RowKit Go.Shelf

structure LMid (lo : Nat) (κ : Nat → Role) (W : World) (B : Nat) (st : St) (xd xg xv xp : Value) (X : World) : Prop where
  b : BoxC X B 42 (stCs st xd xg xv xp)
  o : StO lo κ st xd xg xv xp X
  bl : Below lo W X
  le : lo ≤ B
  ls : lo ≤ X.heap.size
section
variable {lo N : Nat} {κ κ' : Nat → Role} {w X X' : World} {B : Nat} {st : St} {xd xg xv xp : Value}
theorem LMid.drew (M : LMid lo κ w B st xd xg xv xp X) : LMid lo κ w B st xd xg xv xp X.drew := ⟨M.b, M.o.below (Below.refl _ _).drew, M.bl.drew, M.le, M.ls⟩
theorem LMid.grown (M : LMid lo κ w B st xd xg xv xp X) (hb : Below X.heap.size X X') (r : Role) (hN : X.heap.size ≤ N) : LMid lo (kfrom κ N r) w B st xd xg xv xp X' :=
  ⟨M.b.grown hb, M.o.mv (Mv.newkM _ hb hN), M.bl.trans (hb.mono M.ls), M.le, Nat.le_trans M.ls hb.size⟩
theorem LMid.below (M : LMid lo κ w B st xd xg xv xp X) (hb : Below X.heap.size X X') : LMid lo κ w B st xd xg xv xp X' :=
  ⟨M.b.grown hb, M.o.below hb, M.bl.trans (hb.mono M.ls), M.le, Nat.le_trans M.ls hb.size⟩
theorem LMid.draw (M : LMid lo κ w B st xd xg xv xp X) (r : Rg) (xn : Value) (hn : RowU lo κ (0, 0, 0) xn r.s X) :
    LMid lo κ w B { st with d := r } xn xg xv xp (put3 X B xn (.int .u64 r.c) (.int .u64 r.o)) := by
  have m1 := fun S => Mv.box (lo := lo) (κ := κ) S M.b 0 xn
  have b1 := M.b.set 0 xn
  have m2 := fun S => Mv.box (lo := lo) (κ := κ) S b1 1 (.int .u64 r.c)
  have b2 := b1.set 1 (.int .u64 r.c)
  have m3 := fun S => Mv.box (lo := lo) (κ := κ) S b2 2 (.int .u64 r.o)
  have b3 := b2.set 2 (.int .u64 r.o)
  have m := fun S => ((m1 S).trans (m2 S)).trans (m3 S)
  simp only [List.setIfInBounds_toArray, List.set_cons_zero, List.set_cons_succ] at b3
  exact ⟨b3, ⟨m (fun t => t = 0) _ _ _ _ _ _ rfl (by decide) hn, M.o.g.mv (m _), M.o.v.mv (m _), M.o.p.mv (m _)⟩, below_put3 _ _ _ M.bl M.le, M.le, Nat.le_trans M.ls (by simp)⟩
/-- a store of one number into the state's box -/
theorem LMid.put {st' : St} (M : LMid lo κ w B st xd xg xv xp X) (k : Nat) (u : Value) (hb : (stCs st xd xg xv xp).setIfInBounds k u = stCs st' xd xg xv xp) (hd : st'.d.s = st.d.s) (hg : st'.g = st.g) (hv : st'.v = st.v) (hp : st'.p = st.p) : LMid lo κ w B st' xd xg xv xp (X.setCell ⟨B, k, none⟩ u) := by
  have m := fun S => Mv.box (lo := lo) (κ := κ) S M.b k u
  have b1 := M.b.set k u
  rw [hb] at b1
  have ho := M.o.mv (m _)
  exact ⟨b1, ⟨by rw [hd]; exact ho.d, by rw [hg]; exact ho.g, by rw [hv]; exact ho.v, by rw [hp]; exact ho.p⟩, M.bl.setCell (p := ⟨B, k, none⟩) M.le _, M.le, Nat.le_trans M.ls (by simp)⟩
theorem LMid.putD {g off cap : Nat} (M : LMid lo κ w B st (.slice (some ⟨g, off, none⟩) st.d.s.length cap) xg xv xp X) (hg : lo ≤ g) (hk : κ g = (0, 0, 0)) (hr : ∃ cur, X.heap[g]? = some (.cells cur 35 (0, 0))) {k : Nat} (hkn : k < st.d.s.length) (z : Int) :
    LMid lo κ w B { st with d := ⟨st.d.s.set k z, st.d.c, st.d.o⟩ } (.slice (some ⟨g, off, none⟩) st.d.s.length cap) xg xv xp (X.setCell ⟨g, off + k, none⟩ (.int .u64 z)) := by
  have hf : Fr lo κ (fun r => r = (0, 0, 0)) X (X.setCell ⟨g, off + k, none⟩ (.int .u64 z)) := Fr.set hg hk _ _
  have m := fun S hS => Mv.fr (lo := lo) (κ := κ) S hf hS
  exact ⟨M.b.other (p := ⟨g, off + k, none⟩) (M.b.ne_row hr (by decide)) _, ⟨RowU.set M.o.d hkn z, M.o.g.mv (m _ (fun q h e => by rw [e] at h; simp at h)), M.o.v.mv (m _ (fun q h e => by rw [e] at h; simp at h)), M.o.p.mv (m _ (fun q h e => by rw [e] at h; simp at h))⟩,
    M.bl.setCell (p := ⟨g, off + k, none⟩) hg _, M.le, Nat.le_trans M.ls (by simp)⟩
theorem LMid.putV {g k l j : Nat} (M : LMid lo κ w B st xd xg xv xp X) (hg : lo ≤ g) (hk : κ g = (6, l, j)) (hr : ∃ cur, X.heap[g]? = some (.cells cur 35 (0, 0))) (z : Value) {vs : List (List (List Int))} (hv : DivO lo κ xv vs (X.setCell ⟨g, k, none⟩ z)) :
    LMid lo κ w B { st with v := vs } xd xg xv xp (X.setCell ⟨g, k, none⟩ z) := by
  have hf : Fr lo κ (fun r => r = (6, l, j)) X (X.setCell ⟨g, k, none⟩ z) := Fr.set hg hk _ _
  have m := fun S hS => Mv.fr (lo := lo) (κ := κ) S hf hS
  exact ⟨M.b.other (p := ⟨g, k, none⟩) (M.b.ne_row hr (by decide)) _, ⟨m (fun t => t = 0) (fun q h e => by rw [e] at h; simp at h) _ _ _ _ _ _ rfl (by decide) M.o.d, M.o.g.mv (m _ (fun q h e => by rw [e] at h; simp at h)), hv, M.o.p.mv (m _ (fun q h e => by rw [e] at h; simp at h))⟩,
    M.bl.setCell (p := ⟨g, k, none⟩) hg _, M.le, Nat.le_trans M.ls (by simp)⟩
theorem LMid.putG {g k0 k1 k2 l : Nat} (M : LMid lo κ w B st xd xg xv xp X) (hg : lo ≤ g) (hk : κ g = (2, l, 0)) (hr : ∃ cur, X.heap[g]? = some (.cells cur 37 (0, 0))) (u0 u1 u2 : Value) {gs : List (List Rg)} (hv : GenO lo κ xg gs (((X.setCell ⟨g, k0, none⟩ u0).setCell ⟨g, k1, none⟩ u1).setCell ⟨g, k2, none⟩ u2)) :
    LMid lo κ w B { st with g := gs } xd xg xv xp (((X.setCell ⟨g, k0, none⟩ u0).setCell ⟨g, k1, none⟩ u1).setCell ⟨g, k2, none⟩ u2) := by
  have hf : Fr lo κ (fun r => r = (2, l, 0)) X (((X.setCell ⟨g, k0, none⟩ u0).setCell ⟨g, k1, none⟩ u1).setCell ⟨g, k2, none⟩ u2) := ((Fr.set hg hk _ _).trans (Fr.set hg hk _ _)).trans (Fr.set hg hk _ _)
  have m := fun S hS => Mv.fr (lo := lo) (κ := κ) S hf hS
  exact ⟨(heap_set3 _ _ _ (M.b.ne_row hr (by decide))).trans M.b, ⟨m (fun t => t = 0) (fun q h e => by rw [e] at h; simp at h) _ _ _ _ _ _ rfl (by decide) M.o.d, hv, M.o.v.mv (m _ (fun q h e => by rw [e] at h; simp at h)), M.o.p.mv (m _ (fun q h e => by rw [e] at h; simp at h))⟩,
    ((M.bl.setCell (p := ⟨g, k0, none⟩) hg _).setCell (p := ⟨g, k1, none⟩) hg _).setCell (p := ⟨g, k2, none⟩) hg _, M.le, Nat.le_trans M.ls (by simp)⟩
/-- a state that reads reads on behind what turns only from lo on -/
theorem StR.far {W : World} {xd xg xv xp : Value} {st : St} (h : StR W xd xg xv xp st) (hb : Below W.heap.size W X) : StR X xd xg xv xp st := h.mono hb
end
end Go.Proofs.Ytgnamahdchefnaa
namespace Go.Proofs.Ytgnamahdchefnaa
open Go.RowKit Go.Shelf

def LDoPost (st : St) (w : World) (e : Ending) (w' : World) : Prop := ∃ xd xg xv xp κ, e = .returned (.tuple #[.agg (stCs st xd xg xv xp), .int .i64 0]) ∧ StO w.heap.size κ st xd xg xv xp w' ∧ Below w.heap.size w w'
/-- the first one of the past is forgotten -/
theorem LMid.cut {lo : Nat} {κ : Nat → Role} {W X : World} {B : Nat} {st : St} {xd xg xv : Value} {g off m cap : Nat} (M : LMid lo κ W B st xd xg xv (.slice (some ⟨g, off, none⟩) m cap) X) (hm : st.p.length = m) (hn : 1 ≤ m) :
    LMid lo (kshift κ) W B { st with p := st.p.drop 1 } xd xg xv (.slice (some ⟨g, off + 3, none⟩) (m - 1) (cap - 1)) (X.setCell ⟨B, 6, none⟩ (.slice (some ⟨g, off + 3, none⟩) (m - 1) (cap - 1))) := by
  have hP := PastO.drop1 M.o.p hm hn
  have b6 := M.b.set 6 (.slice (some ⟨g, off + 3, none⟩) (m - 1) (cap - 1))
  simp only [List.setIfInBounds_toArray, List.set_cons_zero, List.set_cons_succ] at b6
  have mB := fun S => Mv.box (lo := lo) (κ := kshift κ) S M.b 6 (.slice (some ⟨g, off + 3, none⟩) (m - 1) (cap - 1))
  have mK := fun S hS => Mv.kshift (lo := lo) (κ := κ) (w := X) S hS
  exact ⟨b6, ⟨mB (fun t => t = 0) _ _ _ _ _ _ rfl (by decide) (mK (fun t => t = 0) (fun t h => by omega) _ _ _ _ _ _ rfl (by decide) M.o.d), (M.o.g.mv (mK _ (fun t h => by omega))).mv (mB _), (M.o.v.mv (mK _ (fun t h => by omega))).mv (mB _), PastO.mv hP (mB _)⟩, M.bl.setCell (p := ⟨B, 6, none⟩) M.le _, M.le, Nat.le_trans M.ls (by simp)⟩
end Go.Proofs.Ytgnamahdchefnaa
