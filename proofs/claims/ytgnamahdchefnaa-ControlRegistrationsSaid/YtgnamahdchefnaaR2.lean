/- Appending to owned rows: at a plain region's list and at a step of a region that draws its order; what stands behind it. Lemmas on worlds and code. Conditions: none. -/
import Derived.Test.YtgnamahdchefnaaW4
import Derived.Deep.RegionHeld3
import Derived.StillTailTactics
import Derived.Deep.RegionLaw
namespace Go.Proofs.Ytgnamahdchefnaa
open Go.RowKit Go.Shelf

/-- what the program says of a slice's type -/
def ApT (t e : TypeId) (size bytes : Nat) : Prop := ∃ i z, Try.prog.underlying t = some (.slice e) ∧ Try.prog.info? e = some i ∧ i.zero = some z ∧ i.size = size ∧ i.bytes = bytes ∧ z.cells.size = size ∧ 0 < size
theorem ApT.of {t e : TypeId} {size bytes : Nat} {z : Value} (hu : Try.prog.underlying t = some (.slice e)) (h : (Try.prog.info? e).map (fun i => (i.zero, i.size, i.bytes)) = some (some z, size, bytes)) (hz : z.cells.size = size) (hs : 0 < size) : ApT t e size bytes := by
  obtain ⟨i, hi, h0, h1, h2⟩ := info_parts h
  exact ⟨i, z, hu, hi, h0, h1, h2, hz, hs⟩
theorem ap34 : ApT 34 35 1 8 := ApT.of (z := .int .u64 0) Try.underlying34 (by kernel_rfl) rfl (by decide)
theorem ap40 : ApT 40 37 3 40 := ApT.of (z := .agg #[.slice none 0 0, .int .u64 0, .int .u64 0]) Try.underlying40 (by kernel_rfl) rfl (by decide)
theorem ap38 : ApT 38 40 1 24 := ApT.of (z := .slice none 0 0) Try.underlying38 (by kernel_rfl) rfl (by decide)
theorem ap39 : ApT 39 59 1 24 := ApT.of (z := .slice none 0 0) Try.underlying39 (by kernel_rfl) rfl (by decide)
theorem ap59 : ApT 59 34 1 24 := ApT.of (z := .slice none 0 0) Try.underlying59 (by kernel_rfl) rfl (by decide)
theorem ap26 : ApT 26 28 3 24 := ApT.of (z := .agg #[.int .i64 0, .int .i64 0, .int .i64 0]) Try.underlying26 (by kernel_rfl) rfl (by decide)
theorem ap30 : ApT 30 3 1 8 := ApT.of (z := .int .i64 0) Try.underlying30 (by kernel_rfl) rfl (by decide)

theorem wp_apX {w : World} {t e : TypeId} {size bytes : Nat} (hT : ApT t e size bytes) {o : Oper} {a : Act} {K : Act → World → Prop} {Q : Exit → Act → World → Prop} (s x : Operand)
    (ho : o.op = .call { callee := .builtin .append, args := #[s, x], argTypes := #[t, t] }) {lo : Nat} {κ : Nat → Role} {r : Role} {v : Value} {n : Nat} {C : Nat → Value} (hs : a.eval s = v) (h : RowX lo κ r e size v n C w) (hlo : lo ≤ w.heap.size)
    (ad : Addr) (c : Nat) (news : List Value) (hx : a.eval x = .slice (some ad) 1 c) (hl : news.length = 1 * size) (hnews : ∀ j u, news[j]? = some u → w.cell? (ad.add j) = some u) (h1 : ∀ u ∈ news, u.oneCell' = true) (h63 : n + 1 ≤ maxLen) (hbytes : (n + 1) * bytes ≤ 140737488355328)
    (hK : ∀ v' w', RowX lo (kfrom κ w.heap.size r) r e size v' (n + 1) (capp C (n * size) news) w' → Fr lo κ (fun x => x = r) w w' → Oth e w w' → K (a.put o.dst v') w') : o.wp Try.prog a w K Q := by
  obtain ⟨i, z, ht, hi, hz, h2, h3, h4, h5⟩ := hT
  obtain ⟨v', w', hr, r1, r2, r3⟩ := run_appX (P := Try.prog) w t o.type e i z size bytes ht hi hz h2 h3 h4 h5 h hlo ad c news hl hnews h1 h63 hbytes
  unfold Oper.wp execOp
  simp only [ho, resolve, invoke, builtin, Sem.run_bind, Sem.run_pure, Result.andThen_ok, List.map_toArray, List.map_cons, List.map_nil, hs, hx, hr]
  exact hK v' w' r1 r2 r3
theorem wpList_apX {w : World} {t e : TypeId} {size bytes : Nat} (hT : ApT t e size bytes) {ops : Array Oper} {rest : List Oper} {o : Oper} {a : Act} {Q : Exit → Act → World → Prop} (hgd : o.guard = none) (s x : Operand)
    (ho : o.op = .call { callee := .builtin .append, args := #[s, x], argTypes := #[t, t] }) {lo : Nat} {κ : Nat → Role} {r : Role} {v : Value} {n : Nat} {C : Nat → Value} (hs : a.eval s = v) (h : RowX lo κ r e size v n C w) (hlo : lo ≤ w.heap.size)
    (ad : Addr) (c : Nat) (news : List Value) (hx : a.eval x = .slice (some ad) 1 c) (hl : news.length = 1 * size) (hnews : ∀ j u, news[j]? = some u → w.cell? (ad.add j) = some u) (h1 : ∀ u ∈ news, u.oneCell' = true) (h63 : n + 1 ≤ maxLen) (hbytes : (n + 1) * bytes ≤ 140737488355328)
    (hK : ∀ v' w', RowX lo (kfrom κ w.heap.size r) r e size v' (n + 1) (capp C (n * size) news) w' → Fr lo κ (fun x => x = r) w w' → Oth e w w' → wpList Try.prog ops Q rest (a.put o.dst v') w') : wpList Try.prog ops Q (o :: rest) a w :=
  wpList_plain hgd fun _ hK' => wp_apX hT s x ho hs h hlo ad c news hx hl hnews h1 h63 hbytes (fun v' w' r1 r2 r3 => hK' _ _ (hK v' w' r1 r2 r3))
theorem step_apX {w : World} {t e : TypeId} {size bytes : Nat} (hT : ApT t e size bytes) {ops : Array Oper} {o : Oper} {a : Act} {K : Act → World → Prop} {Q : Exit → Act → World → Prop} {E : Prop} (hgd : o.guard = none) (s x : Operand)
    (ho : o.op = .call { callee := .builtin .append, args := #[s, x], argTypes := #[t, t] }) {lo : Nat} {κ : Nat → Role} {r : Role} {v : Value} {n : Nat} {C : Nat → Value} (hs : a.eval s = v) (h : RowX lo κ r e size v n C w) (hlo : lo ≤ w.heap.size)
    (ad : Addr) (c : Nat) (news : List Value) (hx : a.eval x = .slice (some ad) 1 c) (hl : news.length = 1 * size) (hnews : ∀ j u, news[j]? = some u → w.cell? (ad.add j) = some u) (h1 : ∀ u ∈ news, u.oneCell' = true) (h63 : n + 1 ≤ maxLen) (hbytes : (n + 1) * bytes ≤ 140737488355328)
    (hK : ∀ v' w', RowX lo (kfrom κ w.heap.size r) r e size v' (n + 1) (capp C (n * size) news) w' → Fr lo κ (fun x => x = r) w w' → Oth e w w' → K (a.put o.dst v') w') : if Region.wanted o (yielded ops a.tmps) = true then Oper.wp Try.prog o a w K Q else E := by
  have hw : Region.wanted o (yielded ops a.tmps) = true := by simp [Region.wanted, hgd]
  rw [if_pos hw]
  exact wp_apX hT s x ho hs h hlo ad c news hx hl hnews h1 h63 hbytes hK
/-- a call of a function, by its contract, as one step of a region that draws -/
theorem step_enter {w : World} {ops : Array Oper} {o : Oper} {a : Act} {K : Act → World → Prop} {Q : Exit → Act → World → Prop} {E : Prop} (f : FuncId) (args : Array Value) (hgd : o.guard = none) (h : (execOp a.eval o).run Try.prog w = .ok (.enter f args) w)
    (hk : Calls Try.prog f args w (fun e w' => ∃ v, e = .returned v ∧ K (a.put o.dst v) w')) : if Region.wanted o (yielded ops a.tmps) = true then Oper.wp Try.prog o a w K Q else E := by
  have hw : Region.wanted o (yielded ops a.tmps) = true := by simp [Region.wanted, hgd]
  rw [if_pos hw]
  exact wp_enter h hk
/-- the cells of a block that was just laid -/
theorem laid_news (w : World) (cs : List Value) (t : TypeId) : ∀ j u, cs[j]? = some u → (w.alloc (.cells cs.toArray t)).cell? ((⟨w.heap.size, 0, none⟩ : Addr).add j) = some u := fun j u hu => by
  rw [WideShapes.add_plain]
  have := BoxC.new w t cs.toArray
  refine (this.cell (0 + j) ?_)
  simpa using hu

section
variable {lo : Nat} {κ : Nat → Role} {r r' : Role} {e : TypeId} {size n : Nat} {v : Value} {C : Nat → Value} {w w' : World}
/-- behind an append to a row of another role -/
theorem RowX.push (h : RowX lo κ r' e size v n C w) (hf : Fr lo κ (fun x => x = r) w w') (hr : r' ≠ r) : RowX lo (kfrom κ w.heap.size r) r' e size v n C w' :=
  (h.kf (r' := r)).fr (hf.rekey (R' := fun x => x = r) (fun _ hb _ h1 => (kfrom_old hb).trans h1)) hr
/-- behind what makes memory, which gets a role -/
theorem RowX.newk (h : RowX lo κ r' e size v n C w) (hb : Below w.heap.size w w') : RowX lo (kfrom κ w.heap.size r) r' e size v n C w' := (h.kf).below hb
theorem Mv.push (S : Nat → Prop) (hf : Fr lo κ (fun x => x = r) w w') (hS : ∀ q : Role, S q.1 → q ≠ r) : Mv lo κ w lo (kfrom κ w.heap.size r) w' S := fun _ _ _ _ _ _ h1 _ h => h.push hf (hS _ h1)
theorem Mv.newk (S : Nat → Prop) (hb : Below w.heap.size w w') : Mv lo κ w lo (kfrom κ w.heap.size r) w' S := fun _ _ _ _ _ _ _ _ h => h.newk hb
theorem RegsO.mk_push {rs : Nat → Role} {us : Nat → Value} {ls : List Rg} {x : Value} {rg : Rg} (hrow : RowX lo κ r 37 3 v (ls.length + 1) (capp (regC us ls) (ls.length * 3) [x, .int .u64 rg.c, .int .u64 rg.o]) w)
    (hE : ∀ j, j < ls.length → RowU lo κ (rs j) (us j) (get ls j).s w) (hn : RowU lo κ (rs ls.length) x rg.s w) : RegsO lo κ r rs v (ls ++ [rg]) w := by
  refine ⟨fun j => if j = ls.length then x else us j, ?_, fun j hj => ?_⟩
  · rw [show (ls ++ [rg]).length = ls.length + 1 by simp]
    refine hrow.congr (fun k hk => ?_)
    unfold capp regC
    show _ = if k % 3 = 0 then (if k / 3 = ls.length then x else us (k / 3)) else if k % 3 = 1 then Value.int .u64 (get (ls ++ [rg]) (k / 3)).c else Value.int .u64 (get (ls ++ [rg]) (k / 3)).o
    by_cases h1 : k < ls.length * 3
    · have h2 : k / 3 < ls.length := by omega
      rw [if_pos h1, if_neg (by omega : ¬ k / 3 = ls.length), get_old h2]
    · have h2 : k / 3 = ls.length := by omega
      rw [if_neg h1, if_pos h2, h2, get_new]
      rcases (by omega : k = ls.length * 3 ∨ k = ls.length * 3 + 1 ∨ k = ls.length * 3 + 2) with h3 | h3 | h3
      · rw [h3, if_pos (by omega)]
        simp
      · rw [h3, if_neg (by omega), if_pos (by omega)]
        simp
      · rw [h3, if_neg (by omega), if_neg (by omega)]
        simp
  · have hj' : j < ls.length + 1 := by simpa using hj
    by_cases h1 : j = ls.length
    · subst h1
      simp only [if_pos, get_new]
      exact hn
    · have h2 : j < ls.length := by omega
      simp only [if_neg h1, get_old h2]
      exact hE j h2
theorem OwL.mk_push {α : Type} [Inhabited α] {E : Nat → Value → α → World → Prop} {us : Nat → Value} {xs : List α} {u : Value} {x : α} (hrow : RowX lo κ r e 1 v (xs.length + 1) (capp us (xs.length * 1) [u]) w)
    (hE : ∀ j, j < xs.length → E j (us j) (get xs j) w) (hn : E xs.length u x w) : OwL lo κ r e E v (xs ++ [x]) w := by
  refine ⟨fun j => if j = xs.length then u else us j, ?_, fun j hj => ?_⟩
  · rw [show (xs ++ [x]).length = xs.length + 1 by simp]
    refine hrow.congr (fun k hk => ?_)
    unfold capp
    by_cases h1 : k < xs.length
    · rw [if_pos (by omega), if_neg (by omega)]
    · have h2 : k = xs.length := by omega
      rw [if_neg (by omega), if_pos h2, h2]
      simp
  · have hj' : j < xs.length + 1 := by simpa using hj
    by_cases h1 : j = xs.length
    · subst h1
      simp only [if_pos, get_new]
      exact hn
    · have h2 : j < xs.length := by omega
      simp only [if_neg h1, get_old h2]
      exact hE j h2
theorem RegsO.nil (lo : Nat) (κ : Nat → Role) (r : Role) (rs : Nat → Role) (w : World) : RegsO lo κ r rs (.slice none 0 0) [] w := ⟨fun _ => undef, RowX.nil _ _ _ _ _ _ _, fun j hj => by simp at hj⟩
theorem OwL.nil {α : Type} [Inhabited α] (lo : Nat) (κ : Nat → Role) (r : Role) (e : TypeId) (E : Nat → Value → α → World → Prop) (w : World) : OwL lo κ r e E (.slice none 0 0) [] w := ⟨fun _ => undef, RowX.nil _ _ _ _ _ _ _, fun j hj => by simp at hj⟩
end
end Go.Proofs.Ytgnamahdchefnaa
