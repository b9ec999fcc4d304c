/- What one event turns in memory: a number of the drawn stops, what is drawn, a general or a divisional memory. Lemmas on worlds. Conditions: none. -/
import Derived.Test.YtgnamahdchefnaaR4
namespace Go.Proofs.Ytgnamahdchefnaa
open Go.RowKit Go.Shelf

section
variable {lo N : Nat} {κ κ' : Nat → Role} {w X X' : World} {B B6 : Nat} {st0 st : St} {xb xd xg xv xp : Value}
theorem DoMid.drew (M : DoMid lo κ w B B6 st0 st xb xd xg xv xp X) : DoMid lo κ w B B6 st0 st xb xd xg xv xp X.drew :=
  { b := M.b, o := M.o.below (Below.refl _ _).drew, x := RowX.drew M.x, b6 := M.b6, bl := M.bl.drew, le := M.le, ls := M.ls, n6 := M.n6, k6 := M.k6 }
/-- behind what makes memory -/
theorem DoMid.grown (M : DoMid lo κ w B B6 st0 st xb xd xg xv xp X) (hb : Below X.heap.size X X') (r : Role) (hN : X.heap.size ≤ N) : DoMid lo (kfrom κ N r) w B B6 st0 st xb xd xg xv xp X' :=
  { b := M.b.grown hb, o := M.o.mv (Mv.newkM _ hb hN), x := Mv.newkM (fun _ => True) hb hN _ _ _ _ _ _ trivial (by decide) M.x, b6 := M.b6.grown hb, bl := M.bl.trans (hb.mono M.ls), le := M.le, ls := Nat.le_trans M.ls hb.size, n6 := M.n6, k6 := by rw [kfrom_old (Nat.lt_of_lt_of_le M.b6.lt hN)]; exact M.k6 }
/-- a store of a whole registration into the state's box -/
theorem DoMid.draw (M : DoMid lo κ w B B6 st0 st xb xd xg xv xp X) (r : Rg) (xn : Value) (hn : RowU lo κ (0, 0, 0) xn r.s X) :
    DoMid lo κ w B B6 st0 { st with d := r } xb xn xg xv xp (put3 X B xn (.int .u64 r.c) (.int .u64 r.o)) := by
  have m1 := fun S => Mv.box (lo := lo) (κ := κ) S M.b 0 xn
  have b1 := M.b.set 0 xn
  have m2 := fun S => Mv.box (lo := lo) (κ := κ) S b1 1 (.int .u64 r.c)
  have b2 := b1.set 1 (.int .u64 r.c)
  have m3 := fun S => Mv.box (lo := lo) (κ := κ) S b2 2 (.int .u64 r.o)
  have b3 := b2.set 2 (.int .u64 r.o)
  have m := fun S => ((m1 S).trans (m2 S)).trans (m3 S)
  have hne : B6 ≠ B := M.b6.ne_box M.b (by decide)
  simp only [List.setIfInBounds_toArray, List.set_cons_zero, List.set_cons_succ] at b3
  exact { b := b3, o := ⟨m (fun t => t = 0) _ _ _ _ _ _ rfl (by decide) hn, M.o.g.mv (m _), M.o.v.mv (m _), M.o.p.mv (m _)⟩, x := m (fun t => t = 8) _ _ _ _ _ _ rfl (by decide) M.x,
          b6 := (heap_put3 _ _ _ hne).trans M.b6, bl := below_put3 _ _ _ M.bl M.le, le := M.le, ls := Nat.le_trans M.ls (by simp), n6 := M.n6, k6 := M.k6 }
/-- a store of a number into the drawn stops -/
theorem DoMid.putD {g off cap : Nat} (M : DoMid lo κ w B B6 st0 st xb (.slice (some ⟨g, off, none⟩) st.d.s.length cap) xg xv xp X) (hg : lo ≤ g) (hk : κ g = (0, 0, 0)) (hr : ∃ cur, X.heap[g]? = some (.cells cur 35 (0, 0))) {k : Nat} (hkn : k < st.d.s.length) (z : Int) :
    DoMid lo κ w B B6 st0 { st with d := ⟨st.d.s.set k z, st.d.c, st.d.o⟩ } xb (.slice (some ⟨g, off, none⟩) st.d.s.length cap) xg xv xp (X.setCell ⟨g, off + k, none⟩ (.int .u64 z)) := by
  have hf : Fr lo κ (fun r => r = (0, 0, 0)) X (X.setCell ⟨g, off + k, none⟩ (.int .u64 z)) := Fr.set hg hk _ _
  have m := fun S hS => Mv.fr (lo := lo) (κ := κ) S hf hS
  exact { b := M.b.other (p := ⟨g, off + k, none⟩) (M.b.ne_row hr (by decide)) _, o := ⟨RowU.set M.o.d hkn z, M.o.g.mv (m _ (fun q h e => by rw [e] at h; simp at h)), M.o.v.mv (m _ (fun q h e => by rw [e] at h; simp at h)), M.o.p.mv (m _ (fun q h e => by rw [e] at h; simp at h))⟩,
          x := m (fun t => t = 8) (fun q h e => by rw [e] at h; simp at h) _ _ _ _ _ _ rfl (by decide) M.x, b6 := M.b6.other (p := ⟨g, off + k, none⟩) (M.b6.ne_row hr (by decide)) _, bl := M.bl.setCell (p := ⟨g, off + k, none⟩) hg _, le := M.le, ls := Nat.le_trans M.ls (by simp), n6 := M.n6, k6 := M.k6 }
/-- a store of a number into a divisional memory -/
theorem DivO.put {vs : List (List (List Int))} {us us2 : Nat → Value} {l j i g off cap : Nat} (hrow : RowX lo κ (4, 0, 0) 59 1 xv vs.length us X) (hels : ∀ i, i < vs.length → LvlO lo κ i (us i) (get vs i) X) (hl : l < vs.length) (hj : j < (get vs l).length)
    (hrow2 : RowX lo κ (5, l, 0) 34 1 (us l) (get vs l).length us2 X) (hels2 : ∀ j, j < (get vs l).length → RowU lo κ (6, l, j) (us2 j) (get (get vs l) j) X) (hu : us2 j = .slice (some ⟨g, off, none⟩) (get (get vs l) j).length cap) (hg : lo ≤ g) (hk : κ g = (6, l, j))
    (hi : i < (get (get vs l) j).length) (z : Int) : DivO lo κ xv (vs.set l ((get vs l).set j ((get (get vs l) j).set i z))) (X.setCell ⟨g, off + i, none⟩ (.int .u64 z)) := by
  have hf : Fr lo κ (fun r => r = (6, l, j)) X (X.setCell ⟨g, off + i, none⟩ (.int .u64 z)) := Fr.set hg hk _ _
  refine ⟨us, ?_, fun a ha => ?_⟩
  · rw [List.length_set]
    exact hrow.fr hf (by simp)
  · rw [List.length_set] at ha
    rw [get_set hl]
    by_cases h1 : a = l
    · rw [if_pos h1]
      subst h1
      refine ⟨us2, ?_, fun b hb => ?_⟩
      · rw [List.length_set]
        exact hrow2.fr hf (by simp)
      · rw [List.length_set] at hb
        rw [get_set hj]
        by_cases h2 : b = j
        · rw [if_pos h2]
          subst h2
          have h3 := hels2 b hb
          rw [hu] at h3 ⊢
          exact RowU.set h3 hi z
        · rw [if_neg h2]
          exact RowX.fr (hels2 b hb) hf (by simp [h2])
    · rw [if_neg h1]
      exact OwL.map (hels a ha) (fun v n C h => h.fr hf (by simp)) (fun b _ u x h => RowX.fr h hf (by simp [h1]))
/-- a store of a registration into a general memory -/
theorem GenO.put {gs : List (List Rg)} {us us2 : Nat → Value} {l i g off cap : Nat} (hrow : RowX lo κ (1, 0, 0) 40 1 xg gs.length us X) (hels : ∀ i, i < gs.length → RegsO lo κ (2, i, 0) (fun j => (3, i, j)) (us i) (get gs i) X) (hl : l < gs.length)
    (hrow2 : RowX lo κ (2, l, 0) 37 3 (us l) (get gs l).length (regC us2 (get gs l)) X) (hels2 : ∀ j, j < (get gs l).length → RowU lo κ (3, l, j) (us2 j) (get (get gs l) j).s X) (hu : us l = .slice (some ⟨g, off, none⟩) (get gs l).length cap) (hg : lo ≤ g) (hk : κ g = (2, l, 0))
    (hi : i < (get gs l).length) (r : Rg) (xn : Value) (hx : RowU lo κ (3, l, i) xn r.s X) :
    GenO lo κ xg (gs.set l ((get gs l).set i r)) (((X.setCell ⟨g, off + i * 3, none⟩ xn).setCell ⟨g, off + i * 3 + 1, none⟩ (.int .u64 r.c)).setCell ⟨g, off + i * 3 + 2, none⟩ (.int .u64 r.o)) := by
  have hf : Fr lo κ (fun r => r = (2, l, 0)) X (((X.setCell ⟨g, off + i * 3, none⟩ xn).setCell ⟨g, off + i * 3 + 1, none⟩ (.int .u64 r.c)).setCell ⟨g, off + i * 3 + 2, none⟩ (.int .u64 r.o)) :=
    ((Fr.set hg hk _ _).trans (Fr.set hg hk _ _)).trans (Fr.set hg hk _ _)
  refine ⟨us, ?_, fun a ha => ?_⟩
  · rw [List.length_set]
    exact hrow.fr hf (by simp)
  · rw [List.length_set] at ha
    rw [get_set hl]
    by_cases h1 : a = l
    · rw [if_pos h1]
      subst h1
      refine ⟨fun b => if b = i then xn else us2 b, ?_, fun b hb => ?_⟩
      · rw [List.length_set]
        rw [hu] at hrow2 ⊢
        have h2 := ((hrow2.set (by omega) (i * 3) xn).set (by omega) (i * 3 + 1) (.int .u64 r.c)).set (by omega) (i * 3 + 2) (.int .u64 r.o)
        rw [← Nat.add_assoc, ← Nat.add_assoc] at h2
        refine h2.congr (fun k hk' => ?_)
        have hdiv := get_set hi r (k / 3)
        unfold regC
        show (if k = i * 3 + 2 then _ else if k = i * 3 + 1 then _ else if k = i * 3 then _ else if k % 3 = 0 then _ else if k % 3 = 1 then _ else _) = if k % 3 = 0 then (if k / 3 = i then xn else us2 (k / 3)) else _
        rw [hdiv]
        by_cases e2 : k = i * 3 + 2
        · have d2 : k / 3 = i := by omega
          rw [if_pos e2, if_neg (by omega), if_neg (by omega), if_pos d2]
        · by_cases e1 : k = i * 3 + 1
          · have d1 : k / 3 = i := by omega
            rw [if_neg e2, if_pos e1, if_neg (by omega), if_pos (by omega), if_pos d1]
          · by_cases e0 : k = i * 3
            · have d0 : k / 3 = i := by omega
              rw [if_neg e2, if_neg e1, if_pos e0, if_pos (by omega), if_pos d0]
            · have d : ¬ k / 3 = i := by omega
              rw [if_neg e2, if_neg e1, if_neg e0, if_neg d, if_neg d]
      · rw [List.length_set] at hb
        rw [get_set hi]
        by_cases h2 : b = i
        · simp only [if_pos h2]
          subst h2
          exact RowX.fr hx hf (by simp)
        · simp only [if_neg h2]
          exact RowX.fr (hels2 b hb) hf (by simp)
    · rw [if_neg h1]
      exact RegsO.map (hels a ha) (fun v n C h => h.fr hf (by simp [h1])) (fun b _ v n C h => RowX.fr h hf (by simp))
/-- three stores into another block -/
theorem heap_set3 {g k0 k1 k2 : Nat} (u0 u1 u2 : Value) {b : Nat} (h : b ≠ g) : (((X.setCell ⟨g, k0, none⟩ u0).setCell ⟨g, k1, none⟩ u1).setCell ⟨g, k2, none⟩ u2).heap[b]? = X.heap[b]? := by
  rw [Below.heap_setCell _ _ _ _ h, Below.heap_setCell _ _ _ _ h, Below.heap_setCell _ _ _ _ h]
theorem row_ne {g g' : Nat} {e e' : TypeId} (h : ∃ cur, X.heap[g]? = some (.cells cur e (0, 0))) (h' : ∃ cur, X.heap[g']? = some (.cells cur e' (0, 0))) (ht : e ≠ e') : g ≠ g' := by
  intro e2
  subst e2
  obtain ⟨c1, h1⟩ := h
  obtain ⟨c2, h2⟩ := h'
  rw [h1] at h2
  cases h2
  exact ht rfl
/-- the state with other divisional memories behind a store into one of their rows -/
theorem DoMid.putV {g k l j : Nat} (M : DoMid lo κ w B B6 st0 st xb xd xg xv xp X) (hg : lo ≤ g) (hk : κ g = (6, l, j)) (hr : ∃ cur, X.heap[g]? = some (.cells cur 35 (0, 0))) (z : Value) {vs : List (List (List Int))} (hv : DivO lo κ xv vs (X.setCell ⟨g, k, none⟩ z)) :
    DoMid lo κ w B B6 st0 { st with v := vs } xb xd xg xv xp (X.setCell ⟨g, k, none⟩ z) := by
  have hf : Fr lo κ (fun r => r = (6, l, j)) X (X.setCell ⟨g, k, none⟩ z) := Fr.set hg hk _ _
  have m := fun S hS => Mv.fr (lo := lo) (κ := κ) S hf hS
  exact { b := M.b.other (p := ⟨g, k, none⟩) (M.b.ne_row hr (by decide)) _, o := ⟨m (fun t => t = 0) (fun q h e => by rw [e] at h; simp at h) _ _ _ _ _ _ rfl (by decide) M.o.d, M.o.g.mv (m _ (fun q h e => by rw [e] at h; simp at h)), hv, M.o.p.mv (m _ (fun q h e => by rw [e] at h; simp at h))⟩,
          x := m (fun t => t = 8) (fun q h e => by rw [e] at h; simp at h) _ _ _ _ _ _ rfl (by decide) M.x, b6 := M.b6.other (p := ⟨g, k, none⟩) (M.b6.ne_row hr (by decide)) _, bl := M.bl.setCell (p := ⟨g, k, none⟩) hg _, le := M.le, ls := Nat.le_trans M.ls (by simp), n6 := M.n6, k6 := M.k6 }
/-- the state with other general memories behind three stores into one of their rows -/
theorem DoMid.putG {g k0 k1 k2 l : Nat} (M : DoMid lo κ w B B6 st0 st xb xd xg xv xp X) (hg : lo ≤ g) (hk : κ g = (2, l, 0)) (hne : g ≠ B6) (hr : ∃ cur, X.heap[g]? = some (.cells cur 37 (0, 0))) (u0 u1 u2 : Value) {gs : List (List Rg)} (hv : GenO lo κ xg gs (((X.setCell ⟨g, k0, none⟩ u0).setCell ⟨g, k1, none⟩ u1).setCell ⟨g, k2, none⟩ u2)) :
    DoMid lo κ w B B6 st0 { st with g := gs } xb xd xg xv xp (((X.setCell ⟨g, k0, none⟩ u0).setCell ⟨g, k1, none⟩ u1).setCell ⟨g, k2, none⟩ u2) := by
  have hf : Fr lo κ (fun r => r = (2, l, 0)) X (((X.setCell ⟨g, k0, none⟩ u0).setCell ⟨g, k1, none⟩ u1).setCell ⟨g, k2, none⟩ u2) := ((Fr.set hg hk _ _).trans (Fr.set hg hk _ _)).trans (Fr.set hg hk _ _)
  have m := fun S hS => Mv.fr (lo := lo) (κ := κ) S hf hS
  exact { b := (heap_set3 _ _ _ (M.b.ne_row hr (by decide))).trans M.b, o := ⟨m (fun t => t = 0) (fun q h e => by rw [e] at h; simp at h) _ _ _ _ _ _ rfl (by decide) M.o.d, hv, M.o.v.mv (m _ (fun q h e => by rw [e] at h; simp at h)), M.o.p.mv (m _ (fun q h e => by rw [e] at h; simp at h))⟩,
          x := m (fun t => t = 8) (fun q h e => by rw [e] at h; simp at h) _ _ _ _ _ _ rfl (by decide) M.x, b6 := (heap_set3 _ _ _ hne.symm).trans M.b6, bl := ((M.bl.setCell (p := ⟨g, k0, none⟩) hg _).setCell (p := ⟨g, k1, none⟩) hg _).setCell (p := ⟨g, k2, none⟩) hg _, le := M.le, ls := Nat.le_trans M.ls (by simp), n6 := M.n6, k6 := M.k6 }
/-- the last one of the past becomes what is drawn -/
def kback (κ : Nat → Role) (n : Nat) : Nat → Role := fun b => if κ b = (8, n, 0) then (0, 0, 0) else κ b
theorem StO.back {g off cap : Nat} {us : Nat → Value} (h : StO lo κ st xd xg xv (.slice (some ⟨g, off, none⟩) st.p.length cap) X) (hn : 0 < st.p.length) (hrow : RowX lo κ (7, 0, 0) 37 3 (.slice (some ⟨g, off, none⟩) st.p.length cap) st.p.length (regC us st.p) X)
    (hels : ∀ j, j < st.p.length → RowU lo κ (8, j, 0) (us j) (get st.p j).s X) : StO lo (kback κ (st.p.length - 1)) (undoF st) (us (st.p.length - 1)) xg xv (.slice (some ⟨g, off, none⟩) (st.p.length - 1) cap) X := by
  have kb : ∀ r e size v n C, r ≠ (8, st.p.length - 1, 0) → RowX lo κ r e size v n C X → RowX lo (kback κ (st.p.length - 1)) r e size v n C X := fun r _ _ _ _ _ hr h => h.rekey (fun b _ _ h1 => by unfold kback; rw [h1, if_neg hr])
  have mk : ∀ S : Nat → Prop, (∀ t, S t → t ≠ 8) → Mv lo κ X lo (kback κ (st.p.length - 1)) X S := fun S hS r e size v n C h1 _ h2 => kb r e size v n C (fun e => hS _ h1 (by rw [e])) h2
  have hl : (st.p.take (st.p.length - 1)).length = st.p.length - 1 := by rw [List.length_take]; omega
  refine ⟨?_, h.g.mv (mk _ (fun t h => by omega)), h.v.mv (mk _ (fun t h => by omega)), ⟨us, ?_, fun j hj => ?_⟩⟩
  · exact RowX.rekey (hels (st.p.length - 1) (by omega)) (fun b _ _ h1 => by unfold kback; rw [if_pos h1])
  · show RowX _ _ _ _ _ _ (st.p.take (st.p.length - 1)).length _ _
    rw [hl]
    refine RowX.congr (kb _ _ _ _ _ _ (by simp) (hrow.take (m := st.p.length - 1) (by omega) hn)) (fun k hk => ?_)
    unfold regC
    show _ = if k % 3 = 0 then _ else if k % 3 = 1 then Value.int .u64 (get (st.p.take (st.p.length - 1)) (k / 3)).c else Value.int .u64 (get (st.p.take (st.p.length - 1)) (k / 3)).o
    rw [get_take (by omega)]
  · show RowU _ _ _ _ (get (st.p.take (st.p.length - 1)) j).s _
    have hj' : j < st.p.length - 1 := by rw [← hl]; exact hj
    rw [get_take hj']
    exact kb _ _ _ _ _ _ (by simp; omega) (hels j (by omega))
end
end Go.Proofs.Ytgnamahdchefnaa
