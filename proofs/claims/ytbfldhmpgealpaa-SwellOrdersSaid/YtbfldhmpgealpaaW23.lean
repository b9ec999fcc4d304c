/- Lists of registrations, the last stages, the error of an order, and its keys. Conditions: none. -/
import Derived.Test.YtbfldhmpgealpaaW22
import Derived.Test.YtbfldhmpgealpaaOnce
namespace Go.Proofs.Ytbfldhmpgealpaa
open Go Go.RowKit Go.Shelf

theorem news_of {K : IntKind} {w : World} {b off cap : Nat} {xs : List Int} (h : NumSl K w (.slice (some ⟨b, off, none⟩) xs.length cap) xs) : ∀ (j : Nat) (u : Value), (xs.map (Value.int K))[j]? = some u → w.cell? ((⟨b, off, none⟩ : Addr).add j) = some u := by
  intro j u hu
  rw [WideShapes.add_plain]
  have hj : j < xs.length := by
    rcases Nat.lt_or_ge j xs.length with h1 | h1
    · exact h1
    · simp [h1] at hu
  obtain ⟨b', off', cap', he, hc⟩ := h.at hj
  cases he
  rw [hc j hj]
  simp [hj] at hu
  rw [← hu, nth_lt hj]
theorem run_app_none {P : Program} {w : World} {base : Nat} {t ty e : TypeId} {i : TypeInfo} {size : Nat} (ht : P.underlying t = some (.slice e)) (hi : P.info? e = some i)
    (v : Value) (n c : Nat) (xs : List Value) (hown : w.ownsRow base e size v n xs) :
    (Builtin.append_ #[t, t] ty #[v, .slice none 0 c]).run P w = .ok v w := by
  rcases hown.2 with ⟨rfl, rfl⟩ | ⟨g, cap, cur, rfl, _, _, hnc, _⟩
  · simp [Builtin.append_, run_underlying ht, sizeOf, typeInfo, hi, Builtin.lenOf, Builtin.firstCells]
  · simp [Builtin.append_, run_underlying ht, sizeOf, typeInfo, hi, Builtin.lenOf, Builtin.firstCells, hnc, storeCells]
/-- the numbers ys behind a row of a call's own -/
theorem wpList_app {P : Program} (w : World) {ops : Array Oper} {rest : List Oper} {o : Oper} {a : Act} {Q : Exit → Act → World → Prop} (hgd : o.guard = none) (s x : Operand) (t : TypeId)
    (ho : o.op = .call { callee := .builtin .append, args := #[s, x], argTypes := #[t, t] }) (base : Nat) (i : TypeInfo) (z : Value) (ht : P.underlying t = some (.slice 3)) (hi : P.info? 3 = some i) (hz : i.zero = some z)
    (hsize : i.size = 1) (hby : i.bytes = 8) (hzs : z.cells.size = 1) (v : Value) (n : Nat) (xs : List Int) (hs : a.eval s = v) (hown : w.ownsRow base 3 1 v n (xs.map (Value.int .i64)))
    (u : Value) (ys : List Int) (hx : a.eval x = u) (hu : NumSl .i64 w u ys) (hb : n + ys.length ≤ 100000) (hbase : base ≤ w.heap.size)
    (h : ∀ v' w', w'.ownsRow base 3 1 v' (n + ys.length) ((xs ++ ys).map (Value.int .i64)) → w.grownBy w' v.ownBlock → wpList P ops Q rest (a.put o.dst v') w') : wpList P ops Q (o :: rest) a w := by
  rcases hu with ⟨⟨ad, c, rfl⟩, rfl⟩ | ⟨b, off, c, rfl, hc⟩
  · cases ad with
    | none =>
      refine wpList_plain hgd fun _ hK => ?_
      unfold Oper.wp execOp
      simp only [ho, resolve, invoke, builtin, Sem.run_bind, Sem.run_pure, Result.andThen_ok, List.map_toArray, List.map_cons, List.map_nil, hs, hx, run_app_none ht hi v n c _ hown]
      exact hK _ _ (h v w (by simpa using hown) (World.grownBy.refl _ _))
    | some ad =>
      refine wpList_append_own w hgd s x t ho base 3 i z 1 8 ht hi hz hsize hby hzs (by decide) v n _ hs hown ad 0 c [] hx rfl (by simp) (by simp) (by unfold maxLen; omega) (by omega) hbase (fun v' w' h1 h2 _ => h v' w' (by simpa using h1) h2)
  · refine wpList_append_own w hgd s x t ho base 3 i z 1 8 ht hi hz hsize hby hzs (by decide) v n _ hs hown ⟨b, off, none⟩ ys.length c (ys.map (Value.int .i64)) hx (by simp) (news_of (.inr ⟨b, off, c, rfl, hc⟩)) (ints_oneCell _ _) (by unfold maxLen; omega) (by omega) hbase (fun v' w' h1 h2 _ => h v' w' (by simpa using h1) h2)
theorem ownsRow_num {w : World} {base : Nat} {v : Value} {xs : List Int} (h : w.ownsRow base 3 1 v xs.length (xs.map (Value.int .i64))) : NumSl .i64 w v xs := by
  rcases h.2 with ⟨rfl, h0⟩ | ⟨g, cap, cur, rfl, _, h3, _⟩
  · exact .inl ⟨⟨_, _, rfl⟩, List.eq_nil_of_length_eq_zero h0⟩
  · refine .inr ⟨g, 0, cap, rfl, fun i hi => ?_⟩
    rw [Nat.zero_add, h.cellAt i (by omega)]
    simp [hi, nth_lt hi]

theorem NumSl.kept {K : IntKind} {w w' : World} {v : Value} {xs : List Int} {row : Option Nat} (h : NumSl K w v xs) (hg : w.grownBy w' row) (hne : ∀ b, v.ownBlock = some b → 0 < xs.length → row ≠ some b) : NumSl K w' v xs := by
  rcases h with h | ⟨b, off, cap, rfl, hc⟩
  · exact .inl h
  · exact .inr ⟨b, off, cap, rfl, fun i hi => hg.cell (a := ⟨b, off + i, none⟩) (hc i hi) (fun e => hne b rfl (by omega) e.symm)⟩
theorem ownsRow_kept {W W' : World} {row : Option Nat} {base : Nat} {e : TypeId} {size : Nat} {v : Value} {k : Nat} {xs : List Value} (h : W.ownsRow base e size v k xs) (hg : W.grownBy W' row) (hne : ∀ b, v.ownBlock = some b → row ≠ some b) : W'.ownsRow base e size v k xs := by
  obtain ⟨h1, h2 | ⟨g, cap, cur, rfl, h3, h4, h5⟩⟩ := h
  · exact ⟨h1, .inl h2⟩
  · exact ⟨h1, .inr ⟨g, cap, cur, rfl, h3, (hg.block g (heap_lt h4) (fun e => hne g rfl e.symm)).trans h4, h5⟩⟩
theorem wp_enter {P : Program} {o : Oper} {a : Act} {X : World} {K : Act → World → Prop} {Q : Exit → Act → World → Prop} {f : FuncId} {args : Array Value} (h : (execOp a.eval o).run P X = .ok (.enter f args) X) (hk : Calls P f args X (fun e X' => ∃ v, e = .returned v ∧ K (a.put o.dst v) X')) : o.wp P a X K Q := by
  unfold Oper.wp
  rw [h]
  refine hk.mono ?_
  rintro e X' ⟨v, rfl, h2⟩
  exact h2

/-- a registration: the stops, and its two other words -/
structure Rg where
  s : List Int
  c : Int
  o : Int
def rgAt (ls : List Rg) (k : Nat) : Rg := ls[k]?.getD ⟨[], 0, 0⟩
/-- v reads in w as a list of registrations, three cells each -/
def RgSl (w : World) (v : Value) (ls : List Rg) : Prop :=
  ((∃ a cap, v = .slice a 0 cap) ∧ ls = []) ∨ ∃ b off cap, v = .slice (some ⟨b, off, none⟩) ls.length cap ∧
    ∀ i, i < ls.length → ∃ u, w.cell? ⟨b, off + i * 3, none⟩ = some u ∧ NumSl .u64 w u (rgAt ls i).s ∧ w.cell? ⟨b, off + i * 3 + 1, none⟩ = some (.int .u64 (rgAt ls i).c) ∧ w.cell? ⟨b, off + i * 3 + 2, none⟩ = some (.int .u64 (rgAt ls i).o)
theorem RgSl.len {w : World} {v : Value} {ls : List Rg} (h : RgSl w v ls) : ∃ a cap, v = .slice a ls.length cap := by
  rcases h with ⟨⟨a, cap, rfl⟩, rfl⟩ | ⟨b, off, cap, rfl, _⟩
  · exact ⟨a, cap, rfl⟩
  · exact ⟨some ⟨b, off, none⟩, cap, rfl⟩
theorem RgSl.mono {w w' : World} {v : Value} {ls : List Rg} (h : RgSl w v ls) (hb : Below w.heap.size w w') : RgSl w' v ls := by
  rcases h with h | ⟨b, off, cap, rfl, hc⟩
  · exact .inl h
  · refine .inr ⟨b, off, cap, rfl, fun i hi => ?_⟩
    obtain ⟨u, h1, h2, h3, h4⟩ := hc i hi
    exact ⟨u, (hb.cell (p := ⟨b, _, none⟩) (lt_of_cell h1)).trans h1, h2.mono hb, (hb.cell (p := ⟨b, _, none⟩) (lt_of_cell h3)).trans h3, (hb.cell (p := ⟨b, _, none⟩) (lt_of_cell h4)).trans h4⟩
theorem RgSl.at {w : World} {v : Value} {ls : List Rg} (h : RgSl w v ls) {k : Nat} (hk : k < ls.length) : ∃ b off cap, v = .slice (some ⟨b, off, none⟩) ls.length cap ∧
    ∀ i, i < ls.length → ∃ u, w.cell? ⟨b, off + i * 3, none⟩ = some u ∧ NumSl .u64 w u (rgAt ls i).s ∧ w.cell? ⟨b, off + i * 3 + 1, none⟩ = some (.int .u64 (rgAt ls i).c) ∧ w.cell? ⟨b, off + i * 3 + 2, none⟩ = some (.int .u64 (rgAt ls i).o) := by
  rcases h with ⟨_, rfl⟩ | h
  · simp at hk
  · exact h

/-- the last stage of each box, up to the k-th -/
def lastTo (T : Tab) : Nat → List Int
  | 0 => []
  | k + 1 => lastTo T k ++ [((nths T.b k).length : Int) - 1]
theorem lastTo_len (T : Tab) (k : Nat) : (lastTo T k).length = k := by
  induction k with
  | zero => rfl
  | succ k ih => simp [lastTo, ih]
theorem lastTo_nth (T : Tab) (n k : Nat) (h : k < n) : nth (lastTo T n) k = ((nths T.b k).length : Int) - 1 := by
  induction n with
  | zero => omega
  | succ n ih =>
    unfold nth lastTo
    rcases Nat.lt_or_ge k n with h1 | h1
    · have := ih h1
      unfold nth at this
      rw [List.getElem?_append_left (by rw [lastTo_len]; exact h1)]
      exact this
    · obtain rfl : k = n := by omega
      rw [List.getElem?_append_right (by rw [lastTo_len]; exact Nat.le_refl _), lastTo_len]
      simp
theorem last_ok (T : Tab) (h : TabOk T) : StOk T (nth (lastTo T T.b.length)) := by
  intro k hk
  have h1 := lastTo_nth T T.b.length k (by rw [h.eq]; exact hk)
  rcases Nat.eq_zero_or_pos (nths T.b k).length with h0 | h0
  · exact .inl h0
  · right
    rw [h1]
    omega
/-- the error of an order behind the table's -/
def ordB (T : Tab) (ls : List Rg) (k : Nat) (_ : Unit) : Int ⊕ Unit := if fitF T (rgAt ls k).s ≠ 0 then .inl (fitF T (rgAt ls k).s) else .inr ()
def ordS (T : Tab) (ls : List Rg) (k : Nat) : Int := scan ls.length (ordB T ls) (fun _ => 0) k ()
theorem ordS_bad {T : Tab} {ls : List Rg} {k : Nat} (h : k < ls.length) (h1 : fitF T (rgAt ls k).s ≠ 0) : ordS T ls k = fitF T (rgAt ls k).s := scan_inl h (by unfold ordB; rw [if_pos h1])
theorem ordS_next {T : Tab} {ls : List Rg} {k : Nat} (h : k < ls.length) (h1 : fitF T (rgAt ls k).s = 0) : ordS T ls k = ordS T ls (k + 1) := scan_inr h (by unfold ordB; rw [if_neg (by simpa using h1)])
theorem ordS_end {T : Tab} {ls : List Rg} {k : Nat} (h : ls.length ≤ k) : ordS T ls k = 0 := scan_ge h
def ordF (T : Tab) (ls : List Rg) : Int := if tabF T ≠ 0 then tabF T else ordS T ls 0
/-- the key of the k-th registration -/
def keyF (T : Tab) (ls : List Rg) (k : Nat) : Int := loudF T (rgAt ls k).s (nth (lastTo T T.b.length)) T.s.length
def keysTo (T : Tab) (ls : List Rg) : Nat → List Int
  | 0 => []
  | k + 1 => keysTo T ls k ++ [keyF T ls k]
def idxTo : Nat → List Int
  | 0 => []
  | k + 1 => idxTo k ++ [(k : Int)]
theorem keysTo_len (T : Tab) (ls : List Rg) (k : Nat) : (keysTo T ls k).length = k := by
  induction k with
  | zero => rfl
  | succ k ih => simp [keysTo, ih]
theorem idxTo_len (k : Nat) : (idxTo k).length = k := by
  induction k with
  | zero => rfl
  | succ k ih => simp [idxTo, ih]
theorem keysTo_nth (T : Tab) (ls : List Rg) (n k : Nat) (h : k < n) : nth (keysTo T ls n) k = keyF T ls k := by
  induction n with
  | zero => omega
  | succ n ih =>
    unfold nth keysTo
    rcases Nat.lt_or_ge k n with h1 | h1
    · have := ih h1
      unfold nth at this
      rw [List.getElem?_append_left (by rw [keysTo_len]; exact h1)]
      exact this
    · obtain rfl : k = n := by omega
      rw [List.getElem?_append_right (by rw [keysTo_len]; exact Nat.le_refl _), keysTo_len]
      simp
theorem idxTo_nth (n k : Nat) (h : k < n) : nth (idxTo n) k = k := by
  induction n with
  | zero => omega
  | succ n ih =>
    unfold nth idxTo
    rcases Nat.lt_or_ge k n with h1 | h1
    · have := ih h1
      unfold nth at this
      rw [List.getElem?_append_left (by rw [idxTo_len]; exact h1)]
      exact this
    · obtain rfl : k = n := by omega
      rw [List.getElem?_append_right (by rw [idxTo_len]; exact Nat.le_refl _), idxTo_len]
      simp
theorem idx_out (f : Int → Int) (n : Nat) : OutSt f (idxTo n) n 1 where
  len := idxTo_len n
  rest q _ h2 := idxTo_nth n q h2
  low p h1 h2 := by
    obtain rfl : p = 0 := by omega
    rw [idxTo_nth n 0 h2]
    simp
  srt p q h1 h2 _ := by omega
/-- what stands through the region of an order -/
structure OB (w W : World) (T : Tab) (x1 a0 g h : Nat) (tb rg : Array Value) (lv u7 : Value) (X : World) : Prop where
  sz : W.heap.size ≤ X.heap.size
  lo : Below w.heap.size w X
  pa : BoxC X a0 35 tb
  pg : BoxC X g 40 #[lv]
  ph : BoxC X h 39 rg
  la : NumSl .i64 X u7 (lastTo T T.b.length)
theorem OB.kept {w W : World} {T : Tab} {x1 a0 g h : Nat} {tb rg : Array Value} {lv u7 : Value} {X X' : World} {row : Option Nat} (H : OB w W T x1 a0 g h tb rg lv u7 X) (hg : X.grownBy X' row) (hr : ∀ b, row = some b → x1 ≤ b ∧ b < h)
    (ha : a0 < x1) (hgx : g < x1) (hw : w.heap.size ≤ x1) (hy : ∀ b, u7.ownBlock = some b → b < x1) : OB w W T x1 a0 g h tb rg lv u7 X' where
  sz := Nat.le_trans H.sz hg.size
  lo := H.lo.grown hg H.lo.size (fun b e => by have := hr b e; omega)
  pa := H.pa.kept hg (fun e => by have := hr a0 e.symm; omega)
  pg := H.pg.kept hg (fun e => by have := hr g e.symm; omega)
  ph := H.ph.kept hg (fun e => by have := hr h e.symm; omega)
  la := H.la.kept hg (fun b e _ e2 => by have := hr b e2; have := hy b e; omega)
def rowOf (u lv : Value) (i : Nat) : Option Nat := if i = 3 then u.ownBlock else if i = 10 then lv.ownBlock else none
/-- what a slot of the region holds -/
def OSp (n0 x1 : Nat) (T : Tab) (ls : List Rg) (q : Nat) (u lv u7 tv rv : Value) (i : Nat) (v : Value) (X : World) : Prop :=
  match i with
  | 0 => v = u
  | 1 => v = .int .i64 (q : Int)
  | 2 => ∃ b, v = .slice (some ⟨b, 0, none⟩) 1 1 ∧ n0 ≤ b ∧ X.cell? ⟨b, 0, none⟩ = some (.int .i64 (q : Int)) ∧ b < X.heap.size
  | 3 => ∃ b cp, v = .slice (some ⟨b, 0, none⟩) (q + 1) cp ∧ X.ownsRow x1 3 1 v (q + 1) ((idxTo (q + 1)).map (Value.int .i64)) ∧ (u.ownBlock = some b ∨ n0 ≤ b)
  | 4 => v = lv
  | 5 => v = tv
  | 6 => v = rv
  | 7 => v = u7
  | 8 => v = .int .i64 (keyF T ls q)
  | 9 => ∃ b, v = .slice (some ⟨b, 0, none⟩) 1 1 ∧ n0 ≤ b ∧ X.cell? ⟨b, 0, none⟩ = some (.int .i64 (keyF T ls q)) ∧ b < X.heap.size
  | 10 => ∃ b cp, v = .slice (some ⟨b, 0, none⟩) (q + 1) cp ∧ X.ownsRow x1 3 1 v (q + 1) ((keysTo T ls (q + 1)).map (Value.int .i64)) ∧ (lv.ownBlock = some b ∨ n0 ≤ b)
  | 11 => ∃ a cp, v = .slice a (q + 1) cp
  | _ => True
def ONp (x1 : Nat) (T : Tab) (ls : List Rg) (q : Nat) (u lv : Value) (i : Nat) (X : World) : Prop :=
  (i = 3 → X.ownsRow x1 3 1 u q ((idxTo q).map (Value.int .i64))) ∧ (i = 10 → X.ownsRow x1 3 1 lv q ((keysTo T ls q).map (Value.int .i64)))
theorem osp_stable {n0 x1 : Nat} {T : Tab} {ls : List Rg} {q : Nat} {u lv u7 tv rv : Value} {i j : Nat} {v : Value} {X X' : World} (hij : i ≠ j) (hlo : ∀ i b, rowOf u lv i = some b → b < n0) (hne : ∀ b, u.ownBlock = some b → lv.ownBlock ≠ some b)
    (h : OSp n0 x1 T ls q u lv u7 tv rv j v X) (hg : X.grownBy X' (rowOf u lv i)) : OSp n0 x1 T ls q u lv u7 tv rv j v X' := by
  have hcell : ∀ b z, n0 ≤ b → X.cell? ⟨b, 0, none⟩ = some z → X'.cell? ⟨b, 0, none⟩ = some z := fun b z hb hc => hg.cell (a := ⟨b, 0, none⟩) hc (fun e => by have := hlo i b e.symm; omega)
  match j with
  | 0 | 1 | 4 | 5 | 6 | 7 | 8 | 11 => exact h
  | 2 | 9 =>
    obtain ⟨b, h1, h2, h3, h4⟩ := h
    exact ⟨b, h1, h2, hcell b _ h2 h3, Nat.lt_of_lt_of_le h4 hg.size⟩
  | 3 =>
    obtain ⟨b, cp, rfl, h2, h3⟩ := h
    refine ⟨b, cp, rfl, ownsRow_kept h2 hg (fun b' e e2 => ?_), h3⟩
    cases e
    have h4 : b < n0 := hlo i _ e2
    unfold rowOf at e2
    rw [if_neg hij] at e2
    split at e2
    · rcases h3 with h3 | h3
      · exact hne _ h3 e2
      · omega
    · cases e2
  | 10 =>
    obtain ⟨b, cp, rfl, h2, h3⟩ := h
    refine ⟨b, cp, rfl, ownsRow_kept h2 hg (fun b' e e2 => ?_), h3⟩
    cases e
    have h4 : b < n0 := hlo i _ e2
    unfold rowOf at e2
    rw [if_neg hij] at e2
    split at e2
    · rcases h3 with h3 | h3
      · exact hne _ e2 h3
      · omega
    · cases e2
  | n + 12 => exact trivial
theorem onp_stable {x1 : Nat} {T : Tab} {ls : List Rg} {q : Nat} {u lv : Value} {i j : Nat} {X X' : World} (hij : i ≠ j) (hne : ∀ b, u.ownBlock = some b → lv.ownBlock ≠ some b)
    (h : ONp x1 T ls q u lv j X) (hg : X.grownBy X' (rowOf u lv i)) : ONp x1 T ls q u lv j X' := by
  refine ⟨fun hj => ownsRow_kept (h.1 hj) hg (fun b e e2 => ?_), fun hj => ownsRow_kept (h.2 hj) hg (fun b e e2 => ?_)⟩
  · unfold rowOf at e2
    rw [if_neg (by omega)] at e2
    split at e2
    · exact hne b e e2
    · cases e2
  · unfold rowOf at e2
    rw [if_neg (by omega : ¬ i = 10)] at e2
    split at e2
    · exact hne b e2 e
    · cases e2

end Go.Proofs.Ytbfldhmpgealpaa
