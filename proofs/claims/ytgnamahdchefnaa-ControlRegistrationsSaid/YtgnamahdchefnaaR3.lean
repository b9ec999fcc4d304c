/- Joining what two calls made; a state's box written whole. Lemmas on worlds. Conditions: none. -/
import Derived.Test.YtgnamahdchefnaaW5
namespace Go.Proofs.Ytgnamahdchefnaa
open Go.RowKit Go.Shelf

/-- the old blocks keep their roles, the new ones get theirs by f -/
def kmix (κ0 : Nat → Role) (N : Nat) (κ : Nat → Role) (f : Role → Role) : Nat → Role := fun b => if N ≤ b then f (κ b) else κ0 b
section
variable {lo N : Nat} {κ0 κ : Nat → Role} {f : Role → Role} {r : Role} {e : TypeId} {size n : Nat} {v : Value} {C : Nat → Value} {w w' : World}
theorem RowX.mix (h : RowX lo κ0 r e size v n C w) (hN : w.heap.size ≤ N) : RowX lo (kmix κ0 N κ f) r e size v n C w := h.rekey (fun b _ hb h1 => by unfold kmix; rw [if_neg (by omega)]; exact h1)
theorem RowX.fit (h : RowX N κ r e size v n C w) (hlo : lo ≤ N) : RowX lo (kmix κ0 N κ f) (f r) e size v n C w := (h.rekey (fun b hb _ h1 => by unfold kmix; rw [if_pos hb, h1])).low hlo
theorem Mv.mix (S : Nat → Prop) (hb : Below w.heap.size w w') (hN : w.heap.size ≤ N) : Mv lo κ0 w lo (kmix κ0 N κ f) w' S := fun _ _ _ _ _ _ _ _ h => (h.mix hN).below hb
theorem RegsO.fit {rs : Nat → Role} {ls : List Rg} (h : RegsO N κ (1, 0, 0) (fun j => (2, j, 0)) v ls w) (hlo : lo ≤ N) (hr : f (1, 0, 0) = r) (hs : ∀ j, f (2, j, 0) = rs j) : RegsO lo (kmix κ0 N κ f) r rs v ls w :=
  h.map (fun v n C h1 => by rw [← hr]; exact h1.fit hlo) (fun j _ v n C h1 => by rw [← hs j]; exact RowX.fit h1 hlo)
def fPast : Role → Role := fun q => if q.1 = 1 then (7, 0, 0) else (8, q.2.1, 0)
def fGen (i : Nat) : Role → Role := fun q => if q.1 = 1 then (2, i, 0) else (3, i, q.2.1)
/-- a registration's row first, then the past -/
theorem own_xp {s : List Int} {x vp : Value} {p : List Rg} {w1 w2 : World} {κp : Nat → Role} (hx : NewU N s x w1) (hlo : lo ≤ N) (hN : N ≤ w1.heap.size) (hp : RegsO w1.heap.size κp (1, 0, 0) (fun j => (2, j, 0)) vp p w2) (hb : Below w1.heap.size w1 w2) :
    ∃ κ, RowU lo κ (0, 0, 0) x s w2 ∧ PastO lo κ vp p w2 :=
  ⟨kmix (kfrom (fun _ => (0, 0, 0)) N (0, 0, 0)) w1.heap.size κp fPast, (RowX.mix (hx.row hlo _ (0, 0, 0)) (Nat.le_refl _)).below hb, hp.fit (by omega) rfl (fun _ => rfl)⟩
/-- the past first -/
theorem own_px {s : List Int} {x vp : Value} {p : List Rg} {w1 w2 : World} {κp : Nat → Role} (hp : RegsO N κp (1, 0, 0) (fun j => (2, j, 0)) vp p w1) (hlo : lo ≤ N) (hN : N ≤ w1.heap.size) (hx : NewU w1.heap.size s x w2) (hb : Below w1.heap.size w1 w2) :
    ∃ κ, RowU lo κ (0, 0, 0) x s w2 ∧ PastO lo κ vp p w2 := by
  have h : PastO lo (kmix (fun _ => (0, 0, 0)) N κp fPast) vp p w1 := hp.fit hlo rfl (fun _ => rfl)
  exact ⟨_, hx.row (by omega) _ (0, 0, 0), h.mv (Mv.newk _ hb)⟩
/-- a state's box written whole -/
theorem Mv.put7 {B : Nat} {cs : Array Value} (S : Nat → Prop) (hB : BoxC w B 42 cs) (u0 u1 u2 u3 u4 u5 u6 : Value) : Mv lo κ w lo κ (Go.Proofs.Ytgnamahdchefnaa.put7 w B u0 u1 u2 u3 u4 u5 u6) S :=
  fun _ _ _ _ _ _ _ he h => h.heap (fun g cur _ _ h3 => heap_put7 _ _ _ _ _ _ _ (fun e' => by
    subst e'
    rw [show w.heap[g]? = _ from hB] at h3
    cases h3
    exact he rfl))
theorem BoxC.far7 {W : World} {B D : Nat} {t : TypeId} {cs : Array Value} (h : BoxC W D t cs) (hne : D ≠ B) (u0 u1 u2 u3 u4 u5 u6 : Value) : BoxC (Go.Proofs.Ytgnamahdchefnaa.put7 W B u0 u1 u2 u3 u4 u5 u6) D t cs := (heap_put7 _ _ _ _ _ _ _ hne).trans h
/-- a box stands behind an append to a row of another type -/
theorem BoxC.fr {R : Role → Prop} {B : Nat} {t : TypeId} {cs : Array Value} (h : BoxC w B t cs) (hf : Fr lo κ R w w') (hR : B < lo ∨ ¬ R (κ B)) : BoxC w' B t cs := (hf.block B h.lt hR).trans h
def fDiv (i : Nat) : Role → Role := fun q => if q.1 = 1 then (5, i, 0) else (6, i, q.2.1)
/-- a level of divisional memories that is being made -/
def LvlC (N : Nat) (κ : Nat → Role) : Value → List (List Int) → World → Prop := OwL N κ (1, 0, 0) 34 (fun j => RowU N κ (2, j, 0))
theorem LvlC.fit {xs : List (List Int)} {i : Nat} (h : LvlC N κ v xs w) (hlo : lo ≤ N) : LvlO lo (kmix κ0 N κ (fDiv i)) i v xs w :=
  OwL.map h (fun _ _ _ h1 => RowX.fit (f := fDiv i) h1 hlo) (fun _ _ _ _ h1 => RowX.fit (f := fDiv i) h1 hlo)
theorem LvlC.rd {xs : List (List Int)} (h : LvlC N κ v xs w) : LvlSl w v xs := OwL.rd h (fun _ _ _ h => RowU.num h)
/-- one level of general memories more -/
theorem gen_push {gs : List (List Rg)} {us : Nat → Value} {v2 v' : Value} {ls : List Rg} {w1 w2 w3 w4 : World} {κp : Nat → Role} (hels : ∀ j, j < gs.length → RegsO lo κ (2, j, 0) (fun i => (3, j, i)) (us j) (get gs j) w1) (hb : Below w1.heap.size w1 w2) (hN : w1.heap.size ≤ N) (hlo : lo ≤ N)
    (hnp : RegsO N κp (1, 0, 0) (fun j => (2, j, 0)) v2 ls w2) (hb3 : Below w2.heap.size w2 w3) (hrow : RowX lo (kfrom (kmix κ N κp (fGen gs.length)) w3.heap.size (1, 0, 0)) (1, 0, 0) 40 1 v' (gs.length + 1) (capp us (gs.length * 1) [v2]) w4)
    (hfr : Fr lo (kmix κ N κp (fGen gs.length)) (fun x => x = (1, 0, 0)) w3 w4) : GenO lo (kfrom (kmix κ N κp (fGen gs.length)) w3.heap.size (1, 0, 0)) v' (gs ++ [ls]) w4 := by
  refine OwL.mk_push hrow (fun j hj => ?_) ?_
  · exact (hels j hj).map (fun _ _ _ h => (((h.mix hN).below hb).below hb3).push hfr (by simp)) (fun _ _ _ _ _ h => (((RowX.mix h hN).below hb).below hb3).push hfr (by simp))
  · have h1 : RegsO lo (kmix κ N κp (fGen gs.length)) (2, gs.length, 0) (fun i => (3, gs.length, i)) v2 ls w2 := hnp.fit hlo rfl (fun _ => rfl)
    exact h1.map (fun _ _ _ h => (h.below hb3).push hfr (by simp)) (fun _ _ _ _ _ h => (RowX.below h hb3).push hfr (by simp))
/-- one level of divisional memories more -/
theorem div_push {vs : List (List (List Int))} {us : Nat → Value} {v2 v' : Value} {xs : List (List Int)} {w1 w2 w3 w4 : World} {κp : Nat → Role} (hels : ∀ j, j < vs.length → LvlO lo κ j (us j) (get vs j) w1) (hb : Below w1.heap.size w1 w2) (hN : w1.heap.size ≤ N) (hlo : lo ≤ N)
    (hnp : LvlC N κp v2 xs w2) (hb3 : Below w2.heap.size w2 w3) (hrow : RowX lo (kfrom (kmix κ N κp (fDiv vs.length)) w3.heap.size (4, 0, 0)) (4, 0, 0) 59 1 v' (vs.length + 1) (capp us (vs.length * 1) [v2]) w4)
    (hfr : Fr lo (kmix κ N κp (fDiv vs.length)) (fun x => x = (4, 0, 0)) w3 w4) : DivO lo (kfrom (kmix κ N κp (fDiv vs.length)) w3.heap.size (4, 0, 0)) v' (vs ++ [xs]) w4 := by
  refine OwL.mk_push hrow (fun j hj => ?_) ?_
  · exact OwL.map (hels j hj) (fun _ _ _ h => (((h.mix hN).below hb).below hb3).push hfr (by simp)) (fun _ _ _ _ h => (((RowX.mix h hN).below hb).below hb3).push hfr (by simp))
  · have h1 : LvlO lo (kmix κ N κp (fDiv vs.length)) vs.length v2 xs w2 := LvlC.fit hnp hlo
    exact OwL.map h1 (fun _ _ _ h => (h.below hb3).push hfr (by simp)) (fun _ _ _ _ h => (RowX.below h hb3).push hfr (by simp))
/-- one row of numbers more in a level that is being made -/
theorem lvl_push {xss : List (List Int)} {us : Nat → Value} {v2 v' : Value} {xs : List Int} {w1 w2 w3 w4 : World} {M : Nat} (hels : ∀ j, j < xss.length → RowU N κ (2, j, 0) (us j) (get xss j) w1) (hb : Below w1.heap.size w1 w2) (hM : w1.heap.size ≤ M) (hNM : N ≤ M)
    (hnew : NewU M xs v2 w2) (hb3 : Below w2.heap.size w2 w3) (hrow : RowX N (kfrom (kfrom κ M (2, xss.length, 0)) w3.heap.size (1, 0, 0)) (1, 0, 0) 34 1 v' (xss.length + 1) (capp us (xss.length * 1) [v2]) w4)
    (hfr : Fr N (kfrom κ M (2, xss.length, 0)) (fun x => x = (1, 0, 0)) w3 w4) : LvlC N (kfrom (kfrom κ M (2, xss.length, 0)) w3.heap.size (1, 0, 0)) v' (xss ++ [xs]) w4 := by
  have kf : ∀ r e size v n C, RowX N κ r e size v n C w1 → RowX N (kfrom κ M (2, xss.length, 0)) r e size v n C w1 := fun r e size v n C h => h.rekey (fun b _ hb' h1 => (kfrom_old (by omega)).trans h1)
  refine OwL.mk_push hrow (fun j hj => ?_) ?_
  · exact (((kf _ _ _ _ _ _ (hels j hj)).below hb).below hb3).push hfr (by simp)
  · exact RowX.push (RowX.below (hnew.row hNM κ (2, xss.length, 0)) hb3) hfr (by simp)
/-- one registration more -/
theorem regs_push {rs : Nat → Role} {us : Nat → Value} {ls : List Rg} {x v' : Value} {rg : Rg} {w1 w2 w3 w4 : World} {M : Nat} (hne : ∀ j, rs j ≠ r) (hels : ∀ j, j < ls.length → RowU lo κ (rs j) (us j) (get ls j).s w1) (hb : Below w1.heap.size w1 w2) (hM : w1.heap.size ≤ M) (hlo : lo ≤ M)
    (hnew : NewU M rg.s x w2) (hb3 : Below w2.heap.size w2 w3) (hrow : RowX lo (kfrom (kfrom κ M (rs ls.length)) w3.heap.size r) r 37 3 v' (ls.length + 1) (capp (regC us ls) (ls.length * 3) [x, .int .u64 rg.c, .int .u64 rg.o]) w4)
    (hfr : Fr lo (kfrom κ M (rs ls.length)) (fun x => x = r) w3 w4) : RegsO lo (kfrom (kfrom κ M (rs ls.length)) w3.heap.size r) r rs v' (ls ++ [rg]) w4 := by
  have kf : ∀ r' e size v n C, RowX lo κ r' e size v n C w1 → RowX lo (kfrom κ M (rs ls.length)) r' e size v n C w1 := fun _ _ _ _ _ _ h => h.rekey (fun _ _ hb' h1 => (kfrom_old (by omega)).trans h1)
  refine RegsO.mk_push hrow (fun j hj => ?_) ?_
  · exact (((kf _ _ _ _ _ _ (hels j hj)).below hb).below hb3).push hfr (hne j)
  · exact RowX.push (RowX.below (hnew.row hlo κ (rs ls.length)) hb3) hfr (hne _)
theorem Mv.newkM (S : Nat → Prop) {M : Nat} (hb : Below w.heap.size w w') (hM : w.heap.size ≤ M) : Mv lo κ w lo (kfrom κ M r) w' S := fun _ _ _ _ _ _ _ _ h => (h.rekey (κ' := kfrom κ M r) (fun _ _ hb' h1 => (kfrom_old (by omega)).trans h1)).below hb
end
end Go.Proofs.Ytgnamahdchefnaa
