/- Contracts of slices.Clone, copied, the model's clone and none: what they hand back lies in new memory. Conditions: lists of at most 1000 numbers. -/
import Derived.Test.YtgnamahdchefnaaW3
namespace Go.Proofs.Ytgnamahdchefnaa
open Go.RowKit Go.Shelf

theorem ret_cell {fn : Func} {p B : Nat} {ty : TypeId} {fs : Array Field} {tmps : Array Value} {w : World} {cs : Array Value} (hres : fn.results = #[.cell p ty]) (ht : tmps.getD p undef = .pointer (some ⟨B, 0, none⟩)) (hB : BoxC w B ty cs)
    (hu : Try.prog.underlying ty = some (.struct fs)) (hi : (Try.prog.info? ty).map (·.size) = some cs.size) : (results fn tmps).run Try.prog w = .ok (.agg cs) w := by
  have hl := run_loadVar_row (P := Try.prog) w B ty ty cs (0, 0) (.struct fs) hB hu rfl hi
  simp only [Array.getD_eq_getD_getElem?] at ht
  simp [results, hres, ht, asAddr, hl]
theorem ret_cell_tmp {fn : Func} {p q B : Nat} {ty : TypeId} {fs : Array Field} {tmps : Array Value} {w : World} {cs : Array Value} {v : Value} (hres : fn.results = #[.cell p ty, .tmp q]) (ht : tmps.getD p undef = .pointer (some ⟨B, 0, none⟩)) (hv : tmps.getD q undef = v) (hB : BoxC w B ty cs)
    (hu : Try.prog.underlying ty = some (.struct fs)) (hi : (Try.prog.info? ty).map (·.size) = some cs.size) : (results fn tmps).run Try.prog w = .ok (.tuple #[.agg cs, v]) w := by
  have hl := run_loadVar_row (P := Try.prog) w B ty ty cs (0, 0) (.struct fs) hB hu rfl hi
  simp only [Array.getD_eq_getD_getElem?] at ht hv
  simp [results, hres, ht, hv, asAddr, hl]
theorem ret_cell_tmp2 {fn : Func} {p q q2 B : Nat} {ty : TypeId} {fs : Array Field} {tmps : Array Value} {w : World} {cs : Array Value} {v v2 : Value} (hres : fn.results = #[.cell p ty, .tmp q, .tmp q2]) (ht : tmps.getD p undef = .pointer (some ⟨B, 0, none⟩)) (hv : tmps.getD q undef = v) (hv2 : tmps.getD q2 undef = v2) (hB : BoxC w B ty cs)
    (hu : Try.prog.underlying ty = some (.struct fs)) (hi : (Try.prog.info? ty).map (·.size) = some cs.size) : (results fn tmps).run Try.prog w = .ok (.tuple #[.agg cs, v, v2]) w := by
  have hl := run_loadVar_row (P := Try.prog) w B ty ty cs (0, 0) (.struct fs) hB hu rfl hi
  simp only [Array.getD_eq_getD_getElem?] at ht hv hv2
  simp [results, hres, ht, hv, hv2, asAddr, hl]
theorem size37 : (Try.prog.info? 37).map (·.size) = some 3 := by kernel_rfl
theorem size42 : (Try.prog.info? 42).map (·.size) = some 7 := by kernel_rfl
theorem size32 : (Try.prog.info? 32).map (·.size) = some 5 := by kernel_rfl
theorem BoxC.put3 {W : World} {B : Nat} {t : TypeId} {a b c : Value} (h : BoxC W B t #[a, b, c]) (u0 u1 u2 : Value) :
    BoxC (((W.setCell ⟨B, 0, none⟩ u0).setCell ⟨B, 1, none⟩ u1).setCell ⟨B, 2, none⟩ u2) B t #[u0, u1, u2] := ((h.set 0 u0).set 1 u1).set 2 u2
abbrev put7 (W : World) (B : Nat) (u0 u1 u2 u3 u4 u5 u6 : Value) : World := (((((((W.setCell ⟨B, 0, none⟩ u0).setCell ⟨B, 1, none⟩ u1).setCell ⟨B, 2, none⟩ u2).setCell ⟨B, 3, none⟩ u3).setCell ⟨B, 4, none⟩ u4).setCell ⟨B, 5, none⟩ u5).setCell ⟨B, 6, none⟩ u6)
theorem BoxC.put7 {W : World} {B : Nat} {t : TypeId} {a b c d e f g : Value} (h : BoxC W B t #[a, b, c, d, e, f, g]) (u0 u1 u2 u3 u4 u5 u6 : Value) :
    BoxC (Go.Proofs.Ytgnamahdchefnaa.put7 W B u0 u1 u2 u3 u4 u5 u6) B t #[u0, u1, u2, u3, u4, u5, u6] := by
  have h6 := ((((((h.set 0 u0).set 1 u1).set 2 u2).set 3 u3).set 4 u4).set 5 u5).set 6 u6
  simp only [List.setIfInBounds_toArray, List.set_cons_zero, List.set_cons_succ] at h6
  exact h6
/-- only the block B may have turned -/
theorem heap_put7 {W : World} {B : Nat} (u0 u1 u2 u3 u4 u5 u6 : Value) {b : Nat} (h : b ≠ B) : (put7 W B u0 u1 u2 u3 u4 u5 u6).heap[b]? = W.heap[b]? := by
  unfold put7
  rw [Below.heap_setCell _ _ _ _ h, Below.heap_setCell _ _ _ _ h, Below.heap_setCell _ _ _ _ h, Below.heap_setCell _ _ _ _ h, Below.heap_setCell _ _ _ _ h, Below.heap_setCell _ _ _ _ h, Below.heap_setCell _ _ _ _ h]
theorem below_put7 {B lo : Nat} {w W : World} (u0 u1 u2 u3 u4 u5 u6 : Value) (h : Below lo w W) (hl : lo ≤ B) : Below lo w (put7 W B u0 u1 u2 u3 u4 u5 u6) :=
  ((((((h.setCell (p := ⟨B, 0, none⟩) hl u0).setCell (p := ⟨B, 1, none⟩) hl u1).setCell (p := ⟨B, 2, none⟩) hl u2).setCell (p := ⟨B, 3, none⟩) hl u3).setCell (p := ⟨B, 4, none⟩) hl u4).setCell (p := ⟨B, 5, none⟩) hl u5).setCell (p := ⟨B, 6, none⟩) hl u6
abbrev put3 (W : World) (B : Nat) (u0 u1 u2 : Value) : World := (((W.setCell ⟨B, 0, none⟩ u0).setCell ⟨B, 1, none⟩ u1).setCell ⟨B, 2, none⟩ u2)
theorem heap_put3 {W : World} {B : Nat} (u0 u1 u2 : Value) {b : Nat} (h : b ≠ B) : (put3 W B u0 u1 u2).heap[b]? = W.heap[b]? := by
  unfold put3
  rw [Below.heap_setCell _ _ _ _ h, Below.heap_setCell _ _ _ _ h, Below.heap_setCell _ _ _ _ h]
theorem below_put3 {B lo : Nat} {w W : World} (u0 u1 u2 : Value) (h : Below lo w W) (hl : lo ≤ B) : Below lo w (put3 W B u0 u1 u2) :=
  ((h.setCell (p := ⟨B, 0, none⟩) hl u0).setCell (p := ⟨B, 1, none⟩) hl u1).setCell (p := ⟨B, 2, none⟩) hl u2
theorem info35 : (Try.prog.info? 35).map (fun i => (i.zero, i.size, i.bytes)) = some (some (.int .u64 0), 1, 8) := by kernel_rfl
theorem run_app_none {P : Program} {w : World} {base : Nat} {t ty e : TypeId} {i : TypeInfo} {size : Nat} (ht : P.underlying t = some (.slice e)) (hi : P.info? e = some i)
    (v : Value) (n c : Nat) (xs : List Value) (hown : w.ownsRow base e size v n xs) :
    (Builtin.append_ #[t, t] ty #[v, .slice none 0 c]).run P w = .ok v w := by
  rcases hown.2 with ⟨rfl, rfl⟩ | ⟨g, cap, cur, rfl, _, _, hnc, _⟩
  · simp [Builtin.append_, run_underlying ht, sizeOf, typeInfo, hi, Builtin.lenOf, Builtin.firstCells]
  · simp [Builtin.append_, run_underlying ht, sizeOf, typeInfo, hi, Builtin.lenOf, Builtin.firstCells, hnc, storeCells]
theorem ints_one (K : IntKind) (xs : List Int) : ∀ u ∈ xs.map (Value.int K), u.oneCell' = true := by
  intro u hu
  obtain ⟨_, _, rfl⟩ := List.mem_map.1 hu
  rfl
/-- the numbers ys behind a row of a call's own -/
theorem wpList_app {P : Program} (w : World) {ops : Array Oper} {rest : List Oper} {o : Oper} {a : Act} {Q : Exit → Act → World → Prop} (hgd : o.guard = none) (s x : Operand) (t : TypeId)
    (ho : o.op = .call { callee := .builtin .append, args := #[s, x], argTypes := #[t, t] }) (base : Nat) (i : TypeInfo) (z : Value) (ht : P.underlying t = some (.slice 35)) (hi : P.info? 35 = some i) (hz : i.zero = some z)
    (hsize : i.size = 1) (hby : i.bytes = 8) (hzs : z.cells.size = 1) (v : Value) (n : Nat) (xs : List Int) (hs : a.eval s = v) (hown : w.ownsRow base 35 1 v n (xs.map (Value.int .u64)))
    (u : Value) (ys : List Int) (hx : a.eval x = u) (hu : NumSl .u64 w u ys) (hb : n + ys.length ≤ 100000) (hbase : base ≤ w.heap.size)
    (h : ∀ v' w', w'.ownsRow base 35 1 v' (n + ys.length) ((xs ++ ys).map (Value.int .u64)) → w.grownBy w' v.ownBlock → wpList P ops Q rest (a.put o.dst v') w') : wpList P ops Q (o :: rest) a w := by
  rcases hu with ⟨⟨ad, c, rfl⟩, rfl⟩ | ⟨b, off, c, rfl, hc⟩
  · cases ad with
    | none =>
      refine wpList_plain hgd fun _ hK => ?_
      unfold Oper.wp execOp
      simp only [ho, resolve, invoke, builtin, Sem.run_bind, Sem.run_pure, Result.andThen_ok, List.map_toArray, List.map_cons, List.map_nil, hs, hx, run_app_none ht hi v n c _ hown]
      exact hK _ _ (h v w (by simpa using hown) ⟨rfl, rfl, rfl, Nat.le_refl _, fun _ _ _ => rfl⟩)
    | some ad =>
      refine wpList_append_own w hgd s x t ho base 35 i z 1 8 ht hi hz hsize hby hzs (by decide) v n _ hs hown ad 0 c [] hx rfl (by simp) (by simp) (by unfold maxLen; omega) (by omega) hbase (fun v' w' h1 h2 _ => h v' w' (by simpa using h1) h2)
  · refine wpList_append_own w hgd s x t ho base 35 i z 1 8 ht hi hz hsize hby hzs (by decide) v n _ hs hown ⟨b, off, none⟩ ys.length c (ys.map (Value.int .u64)) hx (by simp) (news_of (.inr ⟨b, off, c, rfl, hc⟩)) (ints_one _ _) (by unfold maxLen; omega) (by omega) hbase (fun v' w' h1 h2 _ => h v' w' (by simpa using h1) h2)

/-- v reads as xs, in memory that is new since w -/
def NewU (N : Nat) (xs : List Int) (v : Value) (w' : World) : Prop := ∀ κ r, (∀ b, N ≤ b → κ b = r) → RowU N κ r v xs w'
theorem NewU.of {N : Nat} {xs : List Int} {v : Value} {w' : World} (h : w'.ownsRow N 35 1 v xs.length (xs.map (Value.int .u64))) : NewU N xs v w' := fun _ _ hk =>
  (RowX.own h hk).congr (fun k hk => by
    have : k < xs.length := by omega
    simp [this, nth_lt this])
theorem NewU.num {N : Nat} {xs : List Int} {v : Value} {w' : World} (h : NewU N xs v w') : NumSl .u64 w' v xs := (h (fun _ => (0, 0, 0)) (0, 0, 0) (fun _ _ => rfl)).num
theorem NewU.below {N : Nat} {xs : List Int} {v : Value} {w' w'' : World} (h : NewU N xs v w') (hb : Below w'.heap.size w' w'') : NewU N xs v w'' := fun κ r hk => (h κ r hk).below hb
theorem NewU.heap {N : Nat} {xs : List Int} {v : Value} {w' w'' : World} (h : NewU N xs v w') (hh : ∀ b, N ≤ b → b < w'.heap.size → w''.heap[b]? = w'.heap[b]?) : NewU N xs v w'' := fun κ r hk => RowX.heap (h κ r hk) (fun g _ h1 _ h3 => hh g h1 (heap_lt h3))
theorem NewU.low {N N' : Nat} {xs : List Int} {v : Value} {w' : World} (h : NewU N xs v w') (hl : N' ≤ N) : NewU N' xs v w' := fun κ r hk => (h κ r (fun b hb => hk b (by omega))).low hl
/-- .. as a row of any role -/
theorem NewU.row {N : Nat} {xs : List Int} {v : Value} {w' : World} (h : NewU N xs v w') {lo : Nat} (hl : lo ≤ N) (κ : Nat → Role) (r : Role) : RowU lo (kfrom κ N r) r v xs w' := (h (kfrom κ N r) r (fun _ hb => kfrom_new hb)).low hl
def ClonePost (xs : List Int) (w : World) (e : Ending) (w' : World) : Prop := ∃ v', e = .returned v' ∧ NewU w.heap.size xs v' w' ∧ Below w.heap.size w w'

set_option maxHeartbeats 4000000 in
theorem Clone_any (v : Value) (xs : List Int) (w : World) (hv : NumSl .u64 w v xs) (hn : xs.length ≤ 1000) : Calls Try.prog 41 #[v] w (ClonePost xs w) := by
  obtain ⟨a, cap, rfl⟩ := hv.len
  obtain ⟨i0, hi, hz0, hz1, hz2⟩ := info_parts info35
  cases a with
  | none =>
    have h0 : xs = [] := by
      rcases hv with ⟨_, h⟩ | ⟨b, off, c, h, _⟩
      · exact h
      · cases h
    subst h0
    have heq : ∀ (X : World) (n c : Nat), (binOp .eql 34 (.slice none n c) (.slice none 0 0)).run Try.prog X = .ok (.bool true) X := fun X n c => Go.Lib.run_eql_slice_nil X 34 35 none n c 0 0 Try.underlying34
    go_enter Try.func41, Try.ntmps41
    go_wp2
    go_ret
    exact ⟨_, rfl, NewU.of (World.ownsRow_nil _ _ _ _), Below.refl _ _⟩
  | some ad =>
    have hown := own_empty w 35
    have hB := (Below.refl w.heap.size w).alloc (Nat.le_refl _) (.cells #[] 35)
    have hv1 := hv.mono hB
    have heq : ∀ (X : World) (n c : Nat), (binOp .eql 34 (.slice (some ad) n c) (.slice none 0 0)).run Try.prog X = .ok (.bool false) X := fun X n c => Go.Lib.run_eql_slice_nil X 34 35 (some ad) n c 0 0 Try.underlying34
    go_enter Try.func41, Try.ntmps41
    go_wp2_with (at_builtin; refine wpList_app _ rfl _ _ 34 rfl w.heap.size i0 _ Try.underlying34 hi hz0 hz1 hz2 rfl _ 0 [] rfl hown _ xs rfl hv1 (by omega) (by simp) ?_; intro v' w' hown' hg')
    go_ret
    rw [Nat.zero_add] at hown'
    exact ⟨_, rfl, NewU.of hown', hB.grown hg' (by simp) (fun k hk => by cases hk; exact Nat.le_refl _)⟩

def CopyPost (r : Rg) (w : World) (e : Ending) (w' : World) : Prop := ∃ v', e = .returned (regV v' r.c r.o) ∧ NewU w.heap.size r.s v' w' ∧ Below w.heap.size w w'
set_option maxHeartbeats 4000000 in
theorem copied_any (v : Value) (r : Rg) (w : World) (hv : NumSl .u64 w v r.s) (hn : r.s.length ≤ 1000) : Calls Try.prog 50 #[regV v r.c r.o] w (CopyPost r w) := by
  have hB := ((Below.refl w.heap.size w).alloc (Nat.le_refl _) (.cells #[v, .int .u64 r.c, .int .u64 r.o] 37)).alloc (by simp) (.cells #[.slice none 0 0, .int .u64 0, .int .u64 0] 37)
  have bP := (BoxC.new w 37 #[v, .int .u64 r.c, .int .u64 r.o]).alloc (.cells #[.slice none 0 0, .int .u64 0, .int .u64 0] 37)
  have bR := BoxC.new (w.alloc (.cells #[v, .int .u64 r.c, .int .u64 r.o] 37)) 37 #[.slice none 0 0, .int .u64 0, .int .u64 0]
  simp only [World.size_alloc] at bR
  have hcl := Clone_any v r.s _ (hv.mono hB) hn
  obtain ⟨a, cap, rfl⟩ := hv.len
  clear hv
  replace hcl := Lib.hid hcl
  go_enter Try.func50, Try.ntmps50
  go_wp2_with fail
  generalize hW : (w.alloc (.cells #[.slice a r.s.length cap, .int .u64 r.c, .int .u64 r.o] 37)).alloc (.cells #[.slice none 0 0, .int .u64 0, .int .u64 0] 37) = W at hB bP bR hcl ⊢
  have hWs : W.heap.size = w.heap.size + 2 := by rw [← hW]; simp
  clear hW
  refine hcl.out.mono ?_
  rintro e w1 ⟨v', rfl, hnew, hb1⟩
  replace bP := bP.grown hb1
  replace bR := bR.grown hb1
  have hlen := hnew.num
  obtain ⟨a4, cap4, rfl⟩ := hlen.len
  have p0 := bP.cell 0 rfl
  have p1 := bP.cell 1 rfl
  have p2 := bP.cell 2 rfl
  have r0 := bR.cell 0 rfl
  have r1 := bR.cell 1 rfl
  have r2 := bR.cell 2 rfl
  have f0 := bP.frozen 0
  have g0 := bR.frozen 0
  have g1 := bR.frozen 1
  have g2 := bR.frozen 2
  have hs1 := hb1.size
  replace hWs := Lib.hid hWs
  clear hlen
  go_wp2_with fail
  have hX := (bR.other (p := ⟨w.heap.size, 0, none⟩) (by simp) (.slice a4 r.s.length cap4)).put3 (.slice a4 r.s.length cap4) (.int .u64 r.c) (.int .u64 r.o)
  refine bodyPost_ret (ret_cell Try.results50 rfl hX Try.underlying37 size37) rfl ⟨_, rfl, ?_, ?_⟩
  · refine (hnew.heap (fun b hb _ => ?_)).low (by rw [hWs.out]; omega)
    rw [hWs.out] at hb
    rw [Below.heap_setCell _ _ _ _ (by show b ≠ w.heap.size + 1; omega), Below.heap_setCell _ _ _ _ (by show b ≠ w.heap.size + 1; omega), Below.heap_setCell _ _ _ _ (by show b ≠ w.heap.size + 1; omega), Below.heap_setCell _ _ _ _ (by show b ≠ w.heap.size; omega)]
  · exact ((((hB.trans (hb1.mono hB.size)).setCell (p := ⟨w.heap.size, 0, none⟩) (Nat.le_refl _) _).setCell (p := ⟨w.heap.size + 1, 0, none⟩) (by simp) _).setCell (p := ⟨w.heap.size + 1, 1, none⟩) (by simp) _).setCell (p := ⟨w.heap.size + 1, 2, none⟩) (by simp) _
set_option maxHeartbeats 4000000 in
theorem lawClone_any (v : Value) (r : Rg) (w : World) (hv : NumSl .u64 w v r.s) (hn : r.s.length ≤ 1000) : Calls Try.prog 18 #[regV v r.c r.o] w (CopyPost r w) := by
  have hB := ((Below.refl w.heap.size w).alloc (Nat.le_refl _) (.cells #[v, .int .u64 r.c, .int .u64 r.o] 37)).alloc (by simp) (.cells #[.slice none 0 0, .int .u64 0, .int .u64 0] 37)
  have bP := (BoxC.new w 37 #[v, .int .u64 r.c, .int .u64 r.o]).alloc (.cells #[.slice none 0 0, .int .u64 0, .int .u64 0] 37)
  have bR := BoxC.new (w.alloc (.cells #[v, .int .u64 r.c, .int .u64 r.o] 37)) 37 #[.slice none 0 0, .int .u64 0, .int .u64 0]
  simp only [World.size_alloc] at bR
  have hcl := Clone_any v r.s _ (hv.mono hB) hn
  obtain ⟨a, cap, rfl⟩ := hv.len
  clear hv
  replace hcl := Lib.hid hcl
  go_enter Try.func18, Try.ntmps18
  go_wp2_with fail
  generalize hW : (w.alloc (.cells #[.slice a r.s.length cap, .int .u64 r.c, .int .u64 r.o] 37)).alloc (.cells #[.slice none 0 0, .int .u64 0, .int .u64 0] 37) = W at hB bP bR hcl ⊢
  have hWs : W.heap.size = w.heap.size + 2 := by rw [← hW]; simp
  clear hW
  refine hcl.out.mono ?_
  rintro e w1 ⟨v', rfl, hnew, hb1⟩
  replace bP := bP.grown hb1
  replace bR := bR.grown hb1
  have hlen := hnew.num
  obtain ⟨a4, cap4, rfl⟩ := hlen.len
  have p0 := bP.cell 0 rfl
  have p1 := bP.cell 1 rfl
  have p2 := bP.cell 2 rfl
  have r0 := bR.cell 0 rfl
  have r1 := bR.cell 1 rfl
  have r2 := bR.cell 2 rfl
  have f0 := bP.frozen 0
  have g0 := bR.frozen 0
  have g1 := bR.frozen 1
  have g2 := bR.frozen 2
  have hs1 := hb1.size
  replace hWs := Lib.hid hWs
  clear hlen
  go_wp2_with fail
  have hX := (bR.other (p := ⟨w.heap.size, 0, none⟩) (by simp) (.slice a4 r.s.length cap4)).put3 (.slice a4 r.s.length cap4) (.int .u64 r.c) (.int .u64 r.o)
  refine bodyPost_ret (ret_cell Try.results18 rfl hX Try.underlying37 size37) rfl ⟨_, rfl, ?_, ?_⟩
  · refine (hnew.heap (fun b hb _ => ?_)).low (by rw [hWs.out]; omega)
    rw [hWs.out] at hb
    rw [Below.heap_setCell _ _ _ _ (by show b ≠ w.heap.size + 1; omega), Below.heap_setCell _ _ _ _ (by show b ≠ w.heap.size + 1; omega), Below.heap_setCell _ _ _ _ (by show b ≠ w.heap.size + 1; omega), Below.heap_setCell _ _ _ _ (by show b ≠ w.heap.size; omega)]
  · exact ((((hB.trans (hb1.mono hB.size)).setCell (p := ⟨w.heap.size, 0, none⟩) (Nat.le_refl _) _).setCell (p := ⟨w.heap.size + 1, 0, none⟩) (by simp) _).setCell (p := ⟨w.heap.size + 1, 1, none⟩) (by simp) _).setCell (p := ⟨w.heap.size + 1, 2, none⟩) (by simp) _
end Go.Proofs.Ytgnamahdchefnaa
