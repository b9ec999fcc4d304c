/- The contracts of Partial. Conditions: lists that fit into memory. -/
import Derived.Test.YtoendfpfnfeccaaW12
namespace Go.Proofs.Ytoendfpfnfeccaa
open Go.RowKit Go.Shelf

set_option maxHeartbeats 1000000 in
theorem Partial_err (v : Value) (css : List (List Int)) (skip : Int) (w : World) (hv : SlSl w v css) (hf : CsFit css) (hd : ckP css skip ≠ 0) : Calls Try.prog 17 #[v, .int .i64 skip] w (ErrPost (ckP css skip) w) := by
  have hB : Below w.heap.size w (w.alloc (.cells #[.slice none 0 0, .int .i64 0, .slice none 0 0, .slice none 0 0] 32)) := (Below.refl _ w).alloc (Nat.le_refl _) _
  have b1 := BoxC.new w 32 #[.slice none 0 0, .int .i64 0, .slice none 0 0, .slice none 0 0]
  have hck := checkPartial_any v css skip _ (hv.mono hB) hf
  obtain ⟨av, cv, rfl⟩ := hv.len
  generalize ckP css skip = d at hck hd ⊢
  have hb : (d != 0) = true := by simp [hd]
  replace hck := Lib.hid hck
  clear hv hf hd
  go_enter Try.func17, Try.ntmps17
  go_wp2_with fail
  refine hck.out.mono ?_
  rintro e w1 ⟨rfl, hb1⟩
  have hB1 := hB.trans (hb1.mono hB.size)
  have b11 := b1.grown hb1
  have z0 := b11.cell 0 rfl
  have z1 := b11.cell 1 rfl
  have z2 := b11.cell 2 rfl
  have z3 := b11.cell 3 rfl
  have y0 := b11.frozen 0
  have y1 := b11.frozen 1
  have y2 := b11.frozen 2
  have y3 := b11.frozen 3
  clear hck hb1 hB
  go_wp2
  have q1 := b11.put4 (.slice none 0 0) (.int .i64 0) (.slice none 0 0) (.slice none 0 0)
  have e0 := q1.cell 0 rfl
  have e1 := q1.cell 1 rfl
  have e2 := q1.cell 2 rfl
  have e3 := q1.cell 3 rfl
  exact bodyPost_ret (v := .tuple #[zeroR, .int .i64 d]) (by simp [results, Try.results17, go_sem, e0, e1, e2, e3, zeroR]) rfl
    ⟨rfl, (((hB1.setCell (p := ⟨w.heap.size, 0, none⟩) (Nat.le_refl _) _).setCell (p := ⟨w.heap.size, 1, none⟩) (Nat.le_refl _) _).setCell (p := ⟨w.heap.size, 2, none⟩) (Nat.le_refl _) _).setCell (p := ⟨w.heap.size, 3, none⟩) (Nat.le_refl _) _⟩

/-- the columns below k are shut -/
def ShutTo (m k : Nat) (cs cs' : List Int) : Prop := cs'.length = cs.length ∧ ∀ j, j < cs.length → nth cs' j = if j < k ∧ (m : Int) ≤ nth cs j then -1 else nth cs j
theorem ShutTo.start {m : Nat} {cs : List Int} : ShutTo m 0 cs cs := ⟨rfl, fun j _ => by simp⟩
theorem ShutTo.at {m k : Nat} {cs cs' : List Int} (h : ShutTo m k cs cs') (hk : k < cs.length) : nth cs' k = nth cs k := by rw [h.2 k hk, if_neg (by omega)]
theorem ShutTo.put {m k : Nat} {cs cs' : List Int} (h : ShutTo m k cs cs') (hk : k < cs.length) (hm : (m : Int) ≤ nth cs k) : ShutTo m (k + 1) cs (cs'.set k (-1)) := ⟨by simp [h.1], fun j hj => by
  rw [nth_set (by rw [h.1]; exact hk)]
  by_cases e : j = k
  · subst e
    rw [if_pos rfl, if_pos ⟨by omega, hm⟩]
  · rw [if_neg e, h.2 j hj]
    by_cases hlt : j < k
    · simp [hlt, show j < k + 1 by omega]
    · simp [hlt, show ¬ j < k + 1 by omega]⟩
theorem ShutTo.skip {m k : Nat} {cs cs' : List Int} (h : ShutTo m k cs cs') (hm : ¬ (m : Int) ≤ nth cs k) : ShutTo m (k + 1) cs cs' := ⟨h.1, fun j hj => by
  rw [h.2 j hj]
  by_cases e : j = k
  · subst e
    simp [hm]
  · by_cases hlt : j < k
    · simp [hlt, show j < k + 1 by omega]
    · simp [hlt, show ¬ j < k + 1 by omega]⟩
theorem ShutTo.done {m : Nat} {cs cs' : List Int} (h : ShutTo m cs.length cs cs') : cs' = shut m cs := ext_nth (by rw [h.1]; simp [shut]) (fun k hk => by
  have hk' : k < cs.length := by rw [← h.1]; exact hk
  rw [h.2 k hk', shut_nth hk']
  simp [hk'])
/-- with the boxes of Partial -/
structure PtM (w : World) (n M gc gu gv B2 : Nat) (pv : Value) (tot : Int) (cs us vs : List Int) (X : World) : Prop where
  m : SolMem w n M gc gu gv cs us vs X
  b1 : BoxC X w.heap.size 32 #[.slice none 0 0, .int .i64 0, .slice none 0 0, .slice none 0 0]
  b2 : BoxC X B2 32 #[rowS gc n, .int .i64 tot, cut1 gu n, pv]
structure PtS (w : World) (n gc gu gv B2 : Nat) : Prop where
  c : 0 < n → w.heap.size < gc
  u : w.heap.size < gu
  v : w.heap.size < gv
  b : w.heap.size < B2
  cb : 0 < n → gc ≠ B2
  ub : gu ≠ B2
  vb : gv ≠ B2
section
variable {w X : World} {n M gc gu gv B2 : Nat} {pv : Value} {tot : Int} {cs us vs : List Int}
theorem PtM.setC (hS : PtS w n gc gu gv B2) (h : PtM w n M gc gu gv B2 pv tot cs us vs X) (hn : 0 < n) (i : Nat) (z : Int) : PtM w n M gc gu gv B2 pv tot (cs.set i z) us vs (X.setCell ⟨gc, i, none⟩ (.int .i64 z)) :=
  ⟨h.m.setC hn i z, h.b1.other (fun e => by have := hS.c hn; have e2 : w.heap.size = gc := e; omega) _, h.b2.other (fun e => hS.cb hn e.symm) _⟩
theorem PtM.setP (hS : PtS w n gc gu gv B2) (h : PtM w n M gc gu gv B2 pv tot cs us vs X) (pv' : Value) : PtM w n M gc gu gv B2 pv' tot cs us vs (X.setCell ⟨B2, 3, none⟩ pv') :=
  ⟨h.m.other (p := ⟨B2, 3, none⟩) (Nat.le_of_lt hS.b) (fun hn => (hS.cb hn).symm) hS.ub.symm hS.vb.symm _, h.b1.other (fun e => by have := hS.b; have e2 : w.heap.size = B2 := e; omega) _, h.b2.set 3 _⟩
end
theorem SolMem.put' {w X : World} {n m gc gu gv : Nat} {cs us vs : List Int} (h : SolMem w n m gc gu gv cs us vs X) {B : Nat} (hB : w.heap.size ≤ B) (h1 : 0 < n → B ≠ gc) (h2 : B ≠ gu) (h3 : B ≠ gv) (u0 u1 u2 u3 : Value) :
    SolMem w n m gc gu gv cs us vs ((((X.setCell ⟨B, 0, none⟩ u0).setCell ⟨B, 1, none⟩ u1).setCell ⟨B, 2, none⟩ u2).setCell ⟨B, 3, none⟩ u3) :=
  (((h.other (p := ⟨B, 0, none⟩) hB h1 h2 h3 u0).other (p := ⟨B, 1, none⟩) hB h1 h2 h3 u1).other (p := ⟨B, 2, none⟩) hB h1 h2 h3 u2).other (p := ⟨B, 3, none⟩) hB h1 h2 h3 u3
theorem BoxC.far4 {W : World} {B C : Nat} {t : TypeId} {cs : Array Value} (h : BoxC W C t cs) (hne : C ≠ B) (u0 u1 u2 u3 : Value) :
    BoxC ((((W.setCell ⟨B, 0, none⟩ u0).setCell ⟨B, 1, none⟩ u1).setCell ⟨B, 2, none⟩ u2).setCell ⟨B, 3, none⟩ u3) C t cs :=
  (((h.other (p := ⟨B, 0, none⟩) hne u0).other (p := ⟨B, 1, none⟩) hne u1).other (p := ⟨B, 2, none⟩) hne u2).other (p := ⟨B, 3, none⟩) hne u3
theorem SolMem.take {w X : World} {n M gc gu gv m : Nat} {cs us vs : List Int} (h : SolMem w n M gc gu gv cs us vs X) (hm : m ≤ M) : NumSl .i64 X (.slice (some ⟨gv, 1, none⟩) m M) ((vs.drop 1).take m) := by
  have hl := h.v.1
  have hl2 : ((vs.drop 1).take m).length = m := by simp; omega
  refine .inr ⟨gv, 1, M, by rw [hl2], fun i hi => ?_⟩
  rw [hl2] at hi
  rw [h.v.cell (i := 1 + i) (by omega)]
  congr 2
  unfold nth
  rw [List.getElem?_take_of_lt hi]
  simp [Nat.add_comm]
theorem WideOk.lt {css : List (List Int)} {skip : Int} {gw n k : Nat} {us : Array Value} {W : World} (h : WideOk css skip gw n k us W) {j b : Nat} {u : Value} (hj : j < k) (hu : us[j]? = some u) (hb : u.ownBlock = some b) : b < W.heap.size := by
  obtain ⟨u', q1, q2, _⟩ := h.r j hj
  rw [hu] at q1
  cases q1
  rcases q2 with ⟨_, q⟩ | ⟨b', off, cap, rfl, q⟩
  · simp [wideF] at q
  · have e : b' = b := Option.some.inj hb
    subst e
    exact lt_of_cell (q 0 (by simp [wideF]; omega))
theorem own_gt {gw g l c : Nat} (h : gw < g) : ∀ b, (Value.slice (some ⟨g, 0, none⟩) l c).ownBlock = some b → gw < b := fun b e => by
  have e2 : g = b := Option.some.inj e
  omega
theorem part_says {css : List (List Int)} {skip tot : Int} {n m M : Nat} {cs us vs : List Int} (hrow : ∀ r, r < css.length → (nths css r).length = colN css) (hn : css.length = n) (hm : colN css = m) (hM : colN (wides css skip) = M) (h0 : 0 < n)
    (hul : us.length = n + 1) (hvl : vs.length = M + 1) (hcl : cs.length = n) (h : SolSays (wides css skip) n M cs us vs tot) : ResOk css (some skip) (shut m cs) (us.drop 1) ((vs.drop 1).take m) tot := by
  subst hn hm hM
  exact resOk_wide hrow h0 hul hvl hcl h.ok h.nn
theorem part_zero {css : List (List Int)} {skip tot : Int} {n m M : Nat} {cs us vs : List Int} (hn : css.length = n) (hm : colN css = m) (h0 : n = 0)
    (hul : us.length = n + 1) (hcl : cs.length = n) (h : SolSays (wides css skip) n M cs us vs tot) : ResOk css (some skip) (shut m cs) (us.drop 1) ((vs.drop 1).take m) tot := by
  subst h0
  obtain rfl : css = [] := List.eq_nil_of_length_eq_zero hn
  obtain rfl : cs = [] := List.eq_nil_of_length_eq_zero hcl
  obtain rfl : m = 0 := hm.symm
  have ht : tot = 0 := h.ok.tot
  exact ⟨rfl, by simp; omega, rfl, fun r hr => absurd hr (by simp), fun r s hr => absurd hr (by simp), ht, fun r k hr => absurd hr (by simp), fun k hk => absurd hk (by simp [colN, nths]), fun r s hr => absurd hr (by simp), ht, fun r hr => absurd hr (by simp), fun k hk => absurd hk (by simp [colN, nths])⟩
end Go.Proofs.Ytoendfpfnfeccaa
