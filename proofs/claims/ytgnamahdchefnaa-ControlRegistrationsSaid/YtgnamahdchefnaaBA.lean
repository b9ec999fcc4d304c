/- Appending in regions that draw their order. Lemmas on worlds; no program. Conditions: none. -/
import Derived.Test.YtgnamahdchefnaaR3
import Derived.Test.YtgnamahdchefnaaHead
namespace Go.Proofs.Ytgnamahdchefnaa
open Go.RowKit Go.Shelf

/-- two lists of levels that are being made, and a new level for each -/
structure Two (lo : Nat) (κ : Nat → Role) (xd : Value) (zs : List Int) (gs : List (List Rg)) (us : Nat → Value) (ug vg : Value) (g0 : List Rg) (vs : List (List (List Int))) (ws : Nat → Value) (uv vv : Value) (v0 : List (List Int)) (W : World) : Prop where
  d : RowU lo κ (0, 0, 0) xd zs W
  rG : RowX lo κ (1, 0, 0) 40 1 ug gs.length us W
  eG : ∀ j, j < gs.length → RegsO lo κ (2, j, 0) (fun i => (3, j, i)) (us j) (get gs j) W
  nG : RegsO lo κ (2, gs.length, 0) (fun i => (3, gs.length, i)) vg g0 W
  rV : RowX lo κ (4, 0, 0) 59 1 uv vs.length ws W
  eV : ∀ j, j < vs.length → LvlO lo κ j (ws j) (get vs j) W
  nV : LvlO lo κ vs.length vv v0 W
/-- blocks of other types than the two lists' lie as they lay -/
structure KeepW (lo : Nat) (w W X : World) : Prop where
  below : Below lo w X
  lo : lo ≤ X.heap.size
  size : W.heap.size ≤ X.heap.size
  block : ∀ (b : Nat) (cs : Array Value) (t : TypeId), W.heap[b]? = some (.cells cs t (0, 0)) → t ≠ 40 → t ≠ 59 → X.heap[b]? = W.heap[b]?
def kapN (κ : Nat → Role) (N : Nat) : Nat → Role := Go.Proofs.Ytgnamahdchefnaa.kfrom κ N (9, 9, 9)
def TwoR (lo : Nat) (κN : Nat → Role) (i : Nat) (X X' : World) : Prop :=
  (i = 4 ∧ Fr lo κN (fun x => x = (1, 0, 0)) X X' ∧ Oth 40 X X') ∨ (i = 9 ∧ Fr lo κN (fun x => x = (4, 0, 0)) X X' ∧ Oth 59 X X') ∨ (i ≠ 4 ∧ i ≠ 9 ∧ Below X.heap.size X X')
section
variable {lo : Nat} {κ : Nat → Role} {w W X X' : World}
theorem KeepW.step {κN : Nat → Role} {i : Nat} (h : KeepW lo w W X) (hr : TwoR lo κN i X X') : KeepW lo w W X' := by
  rcases hr with ⟨-, hf, ho⟩ | ⟨-, hf, ho⟩ | ⟨-, -, hb⟩
  · exact ⟨h.below.trans (hf.below h.lo), Nat.le_trans h.lo hf.size, Nat.le_trans h.size hf.size, fun b cs t hW h1 h2 => (ho b cs t (0, 0) ((h.block b cs t hW h1 h2).trans hW) h1).trans (h.block b cs t hW h1 h2)⟩
  · exact ⟨h.below.trans (hf.below h.lo), Nat.le_trans h.lo hf.size, Nat.le_trans h.size hf.size, fun b cs t hW h1 h2 => (ho b cs t (0, 0) ((h.block b cs t hW h1 h2).trans hW) h2).trans (h.block b cs t hW h1 h2)⟩
  · exact ⟨h.below.trans (hb.mono h.lo), Nat.le_trans h.lo hb.size, Nat.le_trans h.size hb.size, fun b cs t hW h1 h2 => (hb.block b (Nat.lt_of_lt_of_le (heap_lt hW) h.size)).trans (h.block b cs t hW h1 h2)⟩
theorem KeepW.box {B : Nat} {t : TypeId} {cs : Array Value} (h : KeepW lo w W X) (hB : BoxC W B t cs) (h1 : t ≠ 40) (h2 : t ≠ 59) : BoxC X B t cs := (h.block B cs t hB h1 h2).trans hB
theorem RowX.oth2 {r : Role} {e e' : TypeId} {size n : Nat} {v : Value} {C : Nat → Value} (h : RowX lo κ r e size v n C X) (ho : Oth e' X X') (he : e ≠ e') : RowX lo κ r e size v n C X' :=
  h.heap (fun g cur _ _ h3 => ho g cur e (0, 0) h3 he)
/-- a new element's cell, laid in the region -/
def NewCell (N : Nat) (u v : Value) (X : World) : Prop := ∃ b, v = .slice (some ⟨b, 0, none⟩) 1 1 ∧ N ≤ b ∧ b < X.heap.size ∧ X.cell? ⟨b, 0, none⟩ = some u
theorem NewCell.step {N i : Nat} {u v : Value} (h : NewCell N u v X) (hr : TwoR lo (kapN κ N) i X X') : NewCell N u v X' := by
  obtain ⟨b, h1, h2, h3, h4⟩ := h
  have hk : kapN κ N b = (9, 9, 9) := kfrom_new h2
  rcases hr with ⟨-, hf, -⟩ | ⟨-, hf, -⟩ | ⟨-, -, hb⟩
  · exact ⟨b, h1, h2, Nat.lt_of_lt_of_le h3 hf.size, (World.cell?_of_block (hf.block b h3 (.inr (by rw [hk]; simp)))).trans h4⟩
  · exact ⟨b, h1, h2, Nat.lt_of_lt_of_le h3 hf.size, (World.cell?_of_block (hf.block b h3 (.inr (by rw [hk]; simp)))).trans h4⟩
  · exact ⟨b, h1, h2, Nat.lt_of_lt_of_le h3 hb.size, (hb.cell (p := ⟨b, 0, none⟩) h3).trans h4⟩
/-- a list with one more element -/
def Longer (lo : Nat) (κ : Nat → Role) (N : Nat) (r : Role) (e : TypeId) (n : Nat) (C : Nat → Value) (v : Value) (X : World) : Prop := ∃ κ' : Nat → Role, (∀ b, b < N → κ' b = κ b) ∧ RowX lo κ' r e 1 v n C X
theorem Longer.step4 {N n i : Nat} {C : Nat → Value} {v : Value} {κN : Nat → Role} (h : Longer lo κ N (1, 0, 0) 40 n C v X) (hi : i ≠ 4) (hr : TwoR lo κN i X X') : Longer lo κ N (1, 0, 0) 40 n C v X' := by
  obtain ⟨κ', h1, h2⟩ := h
  rcases hr with ⟨e, -⟩ | ⟨-, -, ho⟩ | ⟨-, -, hb⟩
  · exact absurd e hi
  · exact ⟨κ', h1, h2.oth2 ho (by decide)⟩
  · exact ⟨κ', h1, h2.below hb⟩
theorem Longer.step9 {N n i : Nat} {C : Nat → Value} {v : Value} {κN : Nat → Role} (h : Longer lo κ N (4, 0, 0) 59 n C v X) (hi : i ≠ 9) (hr : TwoR lo κN i X X') : Longer lo κ N (4, 0, 0) 59 n C v X' := by
  obtain ⟨κ', h1, h2⟩ := h
  rcases hr with ⟨-, -, ho⟩ | ⟨e, -⟩ | ⟨-, -, hb⟩
  · exact ⟨κ', h1, h2.oth2 ho (by decide)⟩
  · exact absurd e hi
  · exact ⟨κ', h1, h2.below hb⟩
theorem Longer.merge {N n m : Nat} {C D : Nat → Value} {v u : Value} (h : Longer lo κ N (1, 0, 0) 40 n C v X) (h' : Longer lo κ N (4, 0, 0) 59 m D u X) :
    ∃ κ' : Nat → Role, (∀ b, b < N → κ' b = κ b) ∧ RowX lo κ' (1, 0, 0) 40 1 v n C X ∧ RowX lo κ' (4, 0, 0) 59 1 u m D X := by
  obtain ⟨κ1, a1, a2⟩ := h
  obtain ⟨κ2, b1, b2⟩ := h'
  rcases a2 with ⟨rfl, a, rfl⟩ | ⟨g, off, cap, cur, c1, c2, c3, c4, c5⟩
  · exact ⟨κ2, b1, .inl ⟨rfl, a, rfl⟩, b2⟩
  · rcases b2 with ⟨rfl, a, rfl⟩ | ⟨g', off', cap', cur', d1, d2, d3, d4, d5⟩
    · exact ⟨κ1, a1, .inr ⟨g, off, cap, cur, c1, c2, c3, c4, c5⟩, .inl ⟨rfl, a, rfl⟩⟩
    · have hne : g' ≠ g := fun e => by
        subst e
        rw [c4] at d4
        cases d4
      refine ⟨fun b => if b < N then κ b else if b = g then (1, 0, 0) else (4, 0, 0), fun b hb => if_pos hb, .inr ⟨g, off, cap, cur, c1, ?_, c3, c4, c5⟩, .inr ⟨g', off', cap', cur', d1, ?_, d3, d4, d5⟩⟩
      · show (if g < N then κ g else if g = g then (1, 0, 0) else (4, 0, 0)) = _
        split
        · rename_i h; rw [← a1 g h]; exact c2
        · rw [if_pos rfl]
      · show (if g' < N then κ g' else if g' = g then (1, 0, 0) else (4, 0, 0)) = _
        split
        · rename_i h; rw [← b1 g' h]; exact d2
        · first | rfl | rw [if_neg hne]
section
variable {xd : Value} {zs : List Int} {gs : List (List Rg)} {us : Nat → Value} {ug vg : Value} {g0 : List Rg} {vs : List (List (List Int))} {ws : Nat → Value} {uv vv : Value} {v0 : List (List Int)}
theorem Two.done {v4 v9 : Value} (T : Two lo κ xd zs gs us ug vg g0 vs ws uv vv v0 W) (K : KeepW lo w W X) (h4 : Longer lo κ W.heap.size (1, 0, 0) 40 (gs.length + 1) (capp us (gs.length * 1) [vg]) v4 X) (h9 : Longer lo κ W.heap.size (4, 0, 0) 59 (vs.length + 1) (capp ws (vs.length * 1) [vv]) v9 X) :
    ∃ κ', RowU lo κ' (0, 0, 0) xd zs X ∧ GenO lo κ' v4 (gs ++ [g0]) X ∧ DivO lo κ' v9 (vs ++ [v0]) X := by
  obtain ⟨κ', hk, r4, r9⟩ := h4.merge h9
  have mv : ∀ r e size v n C, e ≠ 40 → e ≠ 59 → RowX lo κ r e size v n C W → RowX lo κ' r e size v n C X := fun r e size v n C h1 h2 h =>
    (h.rekey (κ' := κ') (r' := r) (fun b _ hb h3 => (hk b hb).trans h3)).heap (fun g cur _ _ h3 => K.block g cur e h3 h1 h2)
  have mL : ∀ i v xs, LvlO lo κ i v xs W → LvlO lo κ' i v xs X := fun i v xs h => OwL.map h (fun v n C => mv _ _ _ v n C (by decide) (by decide)) (fun j _ u x => mv _ _ _ u _ _ (by decide) (by decide))
  have mG : ∀ i v ls, RegsO lo κ (2, i, 0) (fun j => (3, i, j)) v ls W → RegsO lo κ' (2, i, 0) (fun j => (3, i, j)) v ls X := fun i v ls h => h.map (fun v n C => mv _ _ _ v n C (by decide) (by decide)) (fun j _ v n C => mv _ _ _ v n C (by decide) (by decide))
  exact ⟨κ', mv _ _ _ _ _ _ (by decide) (by decide) T.d, OwL.mk_push r4 (fun j hj => mG j _ _ (T.eG j hj)) (mG _ _ _ T.nG), OwL.mk_push r9 (fun j hj => mL j _ _ (T.eV j hj)) (mL _ _ _ T.nV)⟩
end
/-- what each operation of the region leaves -/
def SpT (lo : Nat) (κ : Nat → Role) (N B3 : Nat) (ug vg : Value) (us : Nat → Value) (n : Nat) (uv vv : Value) (ws : Nat → Value) (m : Nat) : Nat → Value → World → Prop
  | 0, v, _ => v = .pointer (some ⟨B3, 4, none⟩)
  | 1, v, _ => v = ug
  | 2, v, _ => v = vg
  | 3, v, X => NewCell N vg v X
  | 4, v, X => Longer lo κ N (1, 0, 0) 40 (n + 1) (capp us (n * 1) [vg]) v X
  | 5, v, _ => v = .pointer (some ⟨B3, 5, none⟩)
  | 6, v, _ => v = uv
  | 7, v, _ => v = vv
  | 8, v, X => NewCell N vv v X
  | 9, v, X => Longer lo κ N (4, 0, 0) 59 (m + 1) (capp ws (m * 1) [vv]) v X
  | 10, v, _ => v = .pointer (some ⟨B3, 4, none⟩)
  | _ + 11, _, _ => True
def NpT (lo : Nat) (κ : Nat → Role) (N : Nat) (ug : Value) (us : Nat → Value) (n : Nat) (uv : Value) (ws : Nat → Value) (m : Nat) (i : Nat) (X : World) : Prop :=
  (i = 4 → RowX lo (kapN κ N) (1, 0, 0) 40 1 ug n us X) ∧ (i = 9 → RowX lo (kapN κ N) (4, 0, 0) 59 1 uv m ws X)
variable {N B3 n m : Nat} {ug vg uv vv : Value} {us ws : Nat → Value}
theorem spT_stable {i j : Nat} {v : Value} (hij : i ≠ j) (h : SpT lo κ N B3 ug vg us n uv vv ws m j v X) (hr : TwoR lo (kapN κ N) i X X') : SpT lo κ N B3 ug vg us n uv vv ws m j v X' := by
  match j, hij, h with
  | 0, _, h => exact h
  | 1, _, h => exact h
  | 2, _, h => exact h
  | 3, _, h => exact NewCell.step h hr
  | 4, hij, h => exact Longer.step4 h hij hr
  | 5, _, h => exact h
  | 6, _, h => exact h
  | 7, _, h => exact h
  | 8, _, h => exact NewCell.step h hr
  | 9, hij, h => exact Longer.step9 h hij hr
  | 10, _, h => exact h
  | _ + 11, _, _ => trivial
theorem npT_stable {i j : Nat} {κN : Nat → Role} (hij : i ≠ j) (h : NpT lo κ N ug us n uv ws m j X) (hr : TwoR lo κN i X X') : NpT lo κ N ug us n uv ws m j X' := by
  refine ⟨fun e => ?_, fun e => ?_⟩
  · rcases hr with ⟨e2, -⟩ | ⟨-, -, ho⟩ | ⟨-, -, hb⟩
    · exact absurd (e2.trans e.symm) hij
    · exact (h.1 e).oth2 ho (by decide)
    · exact (h.1 e).below hb
  · rcases hr with ⟨-, -, ho⟩ | ⟨e2, -⟩ | ⟨-, -, hb⟩
    · exact (h.2 e).oth2 ho (by decide)
    · exact absurd (e2.trans e.symm) hij
    · exact (h.2 e).below hb
theorem Longer.of4 {v : Value} {C : Nat → Value} {n : Nat} {r : Role} {e : TypeId} {Y : World} (h : RowX lo (Go.Proofs.Ytgnamahdchefnaa.kfrom (kapN κ N) Y.heap.size r) r e 1 v n C X) (hN : N ≤ Y.heap.size) : Longer lo κ N r e n C v X :=
  ⟨_, fun _ hb => (kfrom_old (Nat.lt_of_lt_of_le hb hN)).trans (kfrom_old hb), h⟩
theorem news_cell {b : Nat} {u : Value} (h : X.cell? ⟨b, 0, none⟩ = some u) : ∀ j x, [u][j]? = some x → X.cell? ((⟨b, 0, none⟩ : Addr).add j) = some x := fun j x hx => by
  match j, hx with
  | 0, hx =>
    simp at hx
    subst hx
    rw [WideShapes.add_plain]
    exact h
end
end Go.Proofs.Ytgnamahdchefnaa
namespace Go.Proofs.Ytgnamahdchefnaa
open Go.RowKit Go.Shelf

/-- operation ia appends to a list of role r and type e; the others make memory at most -/
def OneR (lo : Nat) (κN : Nat → Role) (r : Role) (e : TypeId) (ia i : Nat) (X X' : World) : Prop := (i = ia ∧ Fr lo κN (fun x => x = r) X X' ∧ Oth e X X') ∨ (i ≠ ia ∧ Below X.heap.size X X')
/-- blocks of other types than e lie as they lay; other rows of e's type stay, too -/
structure KeepE (lo : Nat) (κN : Nat → Role) (r : Role) (e : TypeId) (w W X : World) : Prop where
  below : Below lo w X
  los : lo ≤ X.heap.size
  size : W.heap.size ≤ X.heap.size
  block : ∀ (b : Nat) (cs : Array Value) (t : TypeId), W.heap[b]? = some (.cells cs t (0, 0)) → t ≠ e → X.heap[b]? = W.heap[b]?
  other : ∀ b, b < W.heap.size → (b < lo ∨ κN b ≠ r) → X.heap[b]? = W.heap[b]?
section
variable {lo : Nat} {κ κN : Nat → Role} {r : Role} {e : TypeId} {ia : Nat} {w W X X' : World}
theorem KeepE.step {i : Nat} (h : KeepE lo κN r e w W X) (hr : OneR lo κN r e ia i X X') : KeepE lo κN r e w W X' := by
  rcases hr with ⟨-, hf, ho⟩ | ⟨-, hb⟩
  · exact ⟨h.below.trans (hf.below h.los), Nat.le_trans h.los hf.size, Nat.le_trans h.size hf.size, fun b cs t hW h1 => (ho b cs t (0, 0) ((h.block b cs t hW h1).trans hW) h1).trans (h.block b cs t hW h1), fun b hb h1 => (hf.block b (Nat.lt_of_lt_of_le hb h.size) h1).trans (h.other b hb h1)⟩
  · exact ⟨h.below.trans (hb.mono h.los), Nat.le_trans h.los hb.size, Nat.le_trans h.size hb.size, fun b cs t hW h1 => (hb.block b (Nat.lt_of_lt_of_le (heap_lt hW) h.size)).trans (h.block b cs t hW h1), fun b hb' h1 => (hb.block b (Nat.lt_of_lt_of_le hb' h.size)).trans (h.other b hb' h1)⟩
theorem KeepE.box {B : Nat} {t : TypeId} {cs : Array Value} (h : KeepE lo κN r e w W X) (hB : BoxC W B t cs) (h1 : t ≠ e) : BoxC X B t cs := (h.block B cs t hB h1).trans hB
theorem NewCell.step1 {N i : Nat} {u v : Value} (hr9 : r ≠ (9, 9, 9)) (h : NewCell N u v X) (hr : OneR lo (kapN κ N) r e ia i X X') : NewCell N u v X' := by
  obtain ⟨b, h1, h2, h3, h4⟩ := h
  have hk : kapN κ N b = (9, 9, 9) := kfrom_new h2
  rcases hr with ⟨-, hf, -⟩ | ⟨-, hb⟩
  · exact ⟨b, h1, h2, Nat.lt_of_lt_of_le h3 hf.size, (World.cell?_of_block (hf.block b h3 (.inr (by rw [hk]; exact Ne.symm hr9)))).trans h4⟩
  · exact ⟨b, h1, h2, Nat.lt_of_lt_of_le h3 hb.size, (hb.cell (p := ⟨b, 0, none⟩) h3).trans h4⟩
theorem Longer.step1 {N n i : Nat} {C : Nat → Value} {v : Value} (h : Longer lo κ N r e n C v X) (hi : i ≠ ia) (hr : OneR lo κN r e ia i X X') : Longer lo κ N r e n C v X' := by
  obtain ⟨κ', h1, h2⟩ := h
  rcases hr with ⟨e', -⟩ | ⟨-, hb⟩
  · exact absurd e' hi
  · exact ⟨κ', h1, h2.below hb⟩
/-- another row, under the roles behind the append -/
theorem KeepE.row {r' : Role} {e' : TypeId} {size n : Nat} {v : Value} {C : Nat → Value} {κ' : Nat → Role} (h : KeepE lo (kapN κ W.heap.size) r e w W X) (hrow : RowX lo κ r' e' size v n C W) (hne : r' ≠ r) (hk : ∀ b, b < W.heap.size → κ' b = κ b) : RowX lo κ' r' e' size v n C X :=
  (hrow.rekey (κ' := κ') (r' := r') (fun b _ hb h3 => (hk b hb).trans h3)).heap (fun g cur _ hg h3 => h.other g (heap_lt h3) (.inr (by
    have hl := heap_lt h3
    rw [show kapN κ W.heap.size g = κ g from kfrom_old hl, ← hk g hl, hg]
    exact hne)))
theorem KeepE.start (hb : Below lo w W) (hl : lo ≤ W.heap.size) : KeepE lo κN r e w W W.drew := ⟨hb.drew, hl, Nat.le_refl _, fun _ _ _ _ _ => rfl, fun _ _ _ => rfl⟩
/-- what each operation leaves: a known value, a new cell, the longer list -/
def SpO (lo : Nat) (κ : Nat → Role) (N : Nat) (r : Role) (e : TypeId) (n : Nat) (C : Nat → Value) (u : Value) (c : Nat → Value) (ib ia i : Nat) (v : Value) (X : World) : Prop :=
  (i = ia → Longer lo κ N r e n C v X) ∧ (i = ib → NewCell N u v X) ∧ (i ≠ ia → i ≠ ib → v = c i)
theorem spO_stable {N n ib i j : Nat} {C : Nat → Value} {u v : Value} {c : Nat → Value} (hr9 : r ≠ (9, 9, 9)) (hij : i ≠ j) (h : SpO lo κ N r e n C u c ib ia j v X) (hr : OneR lo (kapN κ N) r e ia i X X') : SpO lo κ N r e n C u c ib ia j v X' :=
  ⟨fun e => (h.1 e).step1 (fun e2 => hij (e2.trans e.symm)) hr, fun e => (h.2.1 e).step1 hr9 hr, h.2.2⟩
def NpO (lo : Nat) (κ : Nat → Role) (N : Nat) (r : Role) (e : TypeId) (n : Nat) (C : Nat → Value) (u : Value) (ia i : Nat) (X : World) : Prop := i = ia → RowX lo (kapN κ N) r e 1 u n C X
theorem npO_stable {N n i j : Nat} {C : Nat → Value} {u : Value} (hij : i ≠ j) (h : NpO lo κ N r e n C u ia j X) (hr : OneR lo κN r e ia i X X') : NpO lo κ N r e n C u ia j X' := fun e => by
  rcases hr with ⟨e2, -⟩ | ⟨-, hb⟩
  · exact absurd (e2.trans e.symm) hij
  · exact (h e).below hb
end
end Go.Proofs.Ytgnamahdchefnaa
