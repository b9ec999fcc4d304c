/- What a round of a range over a function keeps: every cell but those of the caller's own footprint. Lemmas on worlds; no program. Conditions: none. -/
import Derived.RangeFuncNested
import Derived.RangeFuncBound
import Derived.RangeFuncCalls
import Derived.RangeFuncLeaves
import Derived.Shelf.Abstract
import Derived.Shelf.RegionOpen
import Derived.OwnWalkIn
import Derived.TacticsInMore
import Derived.LoopNIn
import Derived.LoopIn
import Derived.WalkKit
import Derived.WalkSpells
import Derived.WalkLawsBesides
import Derived.BigQuiet
import Derived.Deep.QuietTactic
import Derived.Outline
import Derived.Lib.Hide
namespace Go.Proofs.Ytgnamahdchefnaa
open Go.RowKit Go.Shelf

theorem lt_of_cell {w : World} {p : Addr} {v : Value} (h : w.cell? p = some v) : p.block < w.heap.size := World.block_lt_of_cell? w p h

theorem bcell {W w1 : World} (hb : Below W.heap.size W w1) : (∀ b o, b < W.heap.size → w1.cell? ⟨b, o, none⟩ = W.cell? ⟨b, o, none⟩) ∧ (∀ b o, b < W.heap.size → w1.frozen? ⟨b, o, none⟩ = W.frozen? ⟨b, o, none⟩) :=
  ⟨fun b o h => hb.cell (p := ⟨b, o, none⟩) h, fun b o h => hb.frozen (p := ⟨b, o, none⟩) h⟩

theorem below_grown {W W' : World} (h : Below W.heap.size W W') : W.grownBy W' none := ⟨h.os, h.tape, h.output, h.size, fun k hk _ => h.block k hk⟩

theorem abides_below {β : Type} {B : Nat} {J : β → World → Prop} (h : AbidesFrom B J) {s : β} {W W' : World} (hs : J s W) (hb : Below W.heap.size W W') : J s W' :=
  h s W W' none hs (below_grown hb) (fun r e => by cases e)

theorem ownFrom_grown {β : Type} {B : Nat} {J : β → World → Prop} (h : OwnFrom B J) {s : β} {W W' : World} (hs : J s W) (hb : Below W.heap.size W W') : J s W' :=
  h s W W' none hs (below_grown hb) (fun r e => by cases e)

/-- the blocks that the caller's body may write: m, and the row of the slice that box B holds -/
def fpB (m : Nat → Prop) (B : Option Nat) (W : World) (k : Nat) : Prop := m k ∨ ∃ b v, B = some b ∧ W.cell? ⟨b, 0, none⟩ = some v ∧ v.ownBlock = some k

/-- every cell but those of the footprint lies as it lay; the footprint grows by new blocks alone -/
structure Keeps (m : Nat → Prop) (B : Option Nat) (W W' : World) : Prop where
  size : W.heap.size ≤ W'.heap.size
  same : ∀ k o, ¬ fpB m B W k → W.heap[k]? = some o → o.isCells = true → W'.heap[k]? = some o
  foot : ∀ k, fpB m B W' k → fpB m B W k ∨ (W.heap.size ≤ k ∧ k < W'.heap.size)

theorem Keeps.refl (m : Nat → Prop) (B : Option Nat) (W : World) : Keeps m B W W := ⟨Nat.le_refl _, fun _ _ _ h _ => h, fun _ h => .inl h⟩

theorem heap_lt {W : World} {k : Nat} {o : Obj} (h : W.heap[k]? = some o) : k < W.heap.size := (Array.getElem?_eq_some_iff.1 h).1

theorem Keeps.trans {m : Nat → Prop} {B : Option Nat} {X Y Z : World} (h : Keeps m B X Y) (g : Keeps m B Y Z) : Keeps m B X Z := by
  refine ⟨Nat.le_trans h.size g.size, fun k o hn hk hc => ?_, fun k hk => ?_⟩
  · refine g.same k o (fun hf => ?_) (h.same k o hn hk hc) hc
    have := heap_lt hk
    rcases h.foot k hf with h1 | h1
    · exact hn h1
    · omega
  · have := h.size
    have := g.size
    rcases g.foot k hk with h1 | h1
    · rcases h.foot k h1 with h2 | h2
      · exact .inl h2
      · exact .inr ⟨h2.1, by omega⟩
    · exact .inr ⟨by omega, h1.2⟩

/-- the box's cell reads the same: the footprint is the same -/
theorem fpB_same {m : Nat → Prop} {B : Option Nat} {W W' : World} (h : ∀ b, B = some b → W'.cell? ⟨b, 0, none⟩ = W.cell? ⟨b, 0, none⟩) (k : Nat) : fpB m B W' k ↔ fpB m B W k := by
  unfold fpB
  constructor
  · rintro (h1 | ⟨b, v, h1, h2, h3⟩)
    · exact .inl h1
    · exact .inr ⟨b, v, h1, by rw [← h b h1]; exact h2, h3⟩
  · rintro (h1 | ⟨b, v, h1, h2, h3⟩)
    · exact .inl h1
    · exact .inr ⟨b, v, h1, by rw [h b h1]; exact h2, h3⟩

/-- new blocks alone -/
theorem Keeps.grown {m : Nat → Prop} {B : Option Nat} {W W' : World} (h : Below W.heap.size W W') (hB : ∀ b, B = some b → b < W.heap.size) : Keeps m B W W' :=
  ⟨h.size, fun k _ _ hk _ => (h.block k (heap_lt hk)).trans hk, fun k hk => .inl ((fpB_same (fun b hb => h.cell (p := ⟨b, 0, none⟩) (hB b hb)) k).1 hk)⟩

/-- a turn of a block that is no cells -/
theorem Keeps.putObj {m : Nat → Prop} {B : Option Nat} {N : Nat} (hB : ∀ b, B = some b → b < N) (W : World) (l : Nat) (o o' : Obj) (hl : N ≤ l) (h : W.heap[l]? = some o) (hc : o.isCells = false) (_ : o.isWalk = false) : Keeps m B W (W.putObj l o') := by
  refine ⟨by simp [World.putObj], fun k o1 _ hk hc1 => ?_, fun k hk => .inl ((fpB_same (fun b hb => ?_) k).1 hk)⟩
  · have hne : k ≠ l := fun e => by subst e; rw [h] at hk; cases hk; rw [hc] at hc1; cases hc1
    exact (World.putObj_heap_other hne).trans hk
  · exact World.cell?_of_block (a := ⟨b, 0, none⟩) (World.putObj_heap_other (fun e => by have := hB b hb; have e2 : b = l := e; omega))

/-- a store into a block of m, not the box's -/
theorem Keeps.setCell {m : Nat → Prop} {B : Option Nat} (W : World) {p : Addr} (u : Value) (hm : m p.block) (hB : ∀ b, B = some b → b ≠ p.block) : Keeps m B W (W.setCell p u) := by
  refine ⟨(KeepsWalks.setCell W p u).size, fun k _ hn hk _ => ?_, fun k hk => .inl ((fpB_same (fun b hb => ?_) k).1 hk)⟩
  · have hne : k ≠ p.block := fun e => hn (.inl (by rw [e]; exact hm))
    exact (Below.heap_setCell W p u k hne).trans hk
  · exact World.cell?_of_block (a := ⟨b, 0, none⟩) (Below.heap_setCell W p u b (hB b hb))

theorem Keeps.cell {m : Nat → Prop} {B : Option Nat} {W W' : World} (h : Keeps m B W W') {p : Addr} {v : Value} (hn : ¬ fpB m B W p.block) (hc : W.cell? p = some v) : W'.cell? p = some v := by
  obtain ⟨o, ho, hcell⟩ := cells_of_cell hc
  exact (World.cell?_of_block ((h.same _ o hn ho hcell).trans ho.symm)).trans hc

theorem below_wide {B : Nat} {W W' : World} (h : Below B W W') (hB : W.heap.size ≤ B) : Below W.heap.size W W' := h.mono hB

/-- what an append to a row of the call's own does, and where its row lies -/
theorem run_append_own2 {P : Program} (w : World) (base : Nat) (t ty e : TypeId) (i : TypeInfo) (z : Value) (size bytes : Nat) (ht : P.underlying t = some (.slice e)) (hi : P.info? e = some i) (hz : i.zero = some z)
    (hsize : i.size = size) (hby : i.bytes = bytes) (hzs : z.cells.size = size) (hsz : 0 < size)
    (v : Value) (n : Nat) (xs : List Value) (hown : w.ownsRow base e size v n xs)
    (a : Addr) (m c : Nat) (news : List Value) (hl : news.length = m * size) (hnews : ∀ j u, news[j]? = some u → w.cell? (a.add j) = some u) (h1 : ∀ u ∈ news, u.oneCell' = true)
    (h63 : n + m ≤ maxLen) (hbytes : (n + m) * bytes ≤ 140737488355328) (hbase : base ≤ w.heap.size) :
    ∃ v' w', (Builtin.append_ #[t, t] ty #[v, .slice (some a) m c]).run P w = .ok v' w' ∧ w'.ownsRow base e size v' (n + m) (xs ++ news) ∧ w.grownBy w' v.ownBlock ∧
      (v'.ownBlock = v.ownBlock ∨ w'.ownsRow w.heap.size e size v' (n + m) (xs ++ news)) := by
  have low : ∀ (w' : World) (v' : Value) (k : Nat) (ys : List Value), w'.ownsRow w.heap.size e size v' k ys → w'.ownsRow base e size v' k ys := by
    rintro w' v' k ys ⟨p1, p2⟩
    refine ⟨p1, ?_⟩
    rcases p2 with p2 | ⟨g, cap, cur, q1, q2, q3⟩
    · exact .inl p2
    · exact .inr ⟨g, cap, cur, q1, by omega, q3⟩
  rcases hown.2 with ⟨rfl, rfl⟩ | ⟨g, cap, cur, rfl, _, _, _, _, _, _⟩
  · obtain rfl : xs = [] := List.eq_nil_of_length_eq_zero (by simpa using hown.1)
    obtain ⟨v', w', hr, q1, q2, _⟩ := run_append_own (P := P) w w.heap.size t ty e i z size bytes ht hi hz hsize hby hzs hsz (.slice none 0 0) 0 [] (World.ownsRow_nil w _ e size) a m c news hl hnews h1 h63 hbytes (Nat.le_refl _)
    exact ⟨v', w', hr, low _ _ _ _ q1, q2, .inr q1⟩
  · by_cases hroom : n + m ≤ cap
    · obtain ⟨w', hr, q1, q2⟩ := run_append_fits (P := P) w base t ty e i size ht hi hsize g n cap xs hown a m c news hl hnews h1 hroom
      exact ⟨_, w', hr, q1, q2, .inl rfl⟩
    · obtain ⟨v', w', hr, q1, q2⟩ := run_append_arg_grows (P := P) w t ty e i z size bytes ht hi hz hsize hby hzs hsz ⟨g, 0, none⟩ n cap xs hown.1 (fun j u hj => hown.cells (g := g) rfl j u hj) a m c news hl hnews (by omega) h63 hbytes
      exact ⟨v', w', hr, low _ _ _ _ q1, ⟨q2.os, q2.tape, q2.output, q2.size, fun k hk _ => q2.block k hk (by simp)⟩, .inr q1⟩

theorem wpListIn_append_own2 {F : Fence} {n : Nat} {P : Program} (w : World) {ops : Array Oper} {rest : List Oper} {o : Oper} {a : Act} {Q : Exit → Act → World → Prop}
    (hg : o.guard = none) (s x : Operand) (t : TypeId) (hop : o.op = Op.call { callee := Callee.builtin Builtin.append, args := #[s, x], argTypes := #[t, t] })
    (base : Nat) (e : TypeId) (i : TypeInfo) (z : Value) (size bytes : Nat) (h1 : P.underlying t = some (.slice e)) (h2 : P.info? e = some i) (h3 : i.zero = some z) (h4 : i.size = size) (h5 : i.bytes = bytes) (h6 : z.cells.size = size) (h7 : 0 < size)
    (v : Value) (k : Nat) (xs : List Value) (hs : a.eval s = v) (hown : w.ownsRow base e size v k xs) (ad : Addr) (m c : Nat) (news : List Value) (hx : a.eval x = .slice (some ad) m c) (hn : news.length = m * size)
    (hc : ∀ j u, news[j]? = some u → w.cell? (ad.add j) = some u) (h1c : ∀ u ∈ news, u.oneCell' = true) (b1 : k + m ≤ maxLen) (b2 : (k + m) * bytes ≤ 140737488355328) (b3 : base ≤ w.heap.size)
    (hK : ∀ v' w', w'.ownsRow base e size v' (k + m) (xs ++ news) → w.grownBy w' v.ownBlock → (v'.ownBlock = v.ownBlock ∨ w'.ownsRow w.heap.size e size v' (k + m) (xs ++ news)) → wpListIn F n P ops Q rest (a.put o.dst v') w') :
    wpListIn F n P ops Q (o :: rest) a w := by
  refine wpListIn_plain hg fun K hK' => ?_
  obtain ⟨v', w', hrun, r1, r2, r3⟩ := run_append_own2 (P := P) w base t o.type e i z size bytes h1 h2 h3 h4 h5 h6 h7 v k xs hown ad m c news hn hc h1c b1 b2 b3
  unfold Oper.wpIn
  refine ⟨?_, ?_⟩
  · simp [Oper.about, hop, resolve, Target.leads, Sem.run_pure]
  · rw [Oper.semAt_plain F _ _ (by rw [hop]; intro c hc'; cases hc')]
    simp [execOp, hop, resolve, invoke, builtin, hs, hx, hrun, Result.andThen]
    exact hK' _ _ (hK v' w' r1 r2 r3)

/-- box B holds a slice that owns a row; behind an append and the store of its result into the box -/
theorem Keeps.appended {m : Nat → Prop} {W w1 : World} {n₀ B : Nat} {t e : TypeId} {size : Nat} {v v' : Value} {k j : Nat} {xs ys : List Value} {tmp : Obj}
    (hv : Boxed W B t v) (hte : t ≠ e) (hrow : W.ownsRow n₀ e size v k xs) (hmB : m B)
    (hgrow : (W.alloc tmp).grownBy w1 v.ownBlock) (hwhere : v'.ownBlock = v.ownBlock ∨ w1.ownsRow (W.alloc tmp).heap.size e size v' j ys) :
    Keeps m (some B) W (w1.setCell ⟨B, 0, none⟩ v') := by
  have hv1 : Boxed w1 B t v := (hv.alloc tmp).kept hgrow (hv.not_row hte hrow)
  have hv2 := hv1.set v'
  have hsz : W.heap.size ≤ w1.heap.size := by have := hgrow.size; simp at this; omega
  have hsz2 : (w1.setCell ⟨B, 0, none⟩ v').heap.size = w1.heap.size := by simp [World.setCell]
  refine ⟨by rw [hsz2]; exact hsz, fun i o hn hi hc => ?_, fun i hi => ?_⟩
  · have hlt := heap_lt hi
    have hiB : i ≠ B := fun e => hn (.inl (by rw [e]; exact hmB))
    have hir : some i ≠ v.ownBlock := fun e => hn (.inr ⟨B, v, rfl, hv.cell, e.symm⟩)
    refine (Below.heap_setCell w1 _ _ i hiB).trans ?_
    refine (hgrow.block i (by simp; omega) hir).trans ?_
    exact (Below.heap_alloc W tmp i hlt).trans hi
  · rcases hi with hi | ⟨b, u, hb, hu, hi⟩
    · exact .inl (.inl hi)
    · cases hb
      rw [hv2.cell] at hu
      cases hu
      rcases hwhere with h1 | h1
      · exact .inl (.inr ⟨B, v, rfl, hv.cell, by rw [← h1]; exact hi⟩)
      · rcases h1.2 with ⟨h2, _⟩ | ⟨g, cap, cur, h2, h3, h4, _⟩
        · rw [h2] at hi; cases hi
        · rw [h2] at hi
          simp [Value.ownBlock] at hi
          subst hi
          have := heap_lt h4
          simp at h3
          exact .inr ⟨by omega, by rw [hsz2]; exact this⟩

theorem cell_new (W : World) (c : Array Value) (t : TypeId) (i : Nat) (v : Value) (h : c[i]? = some v) : (W.alloc (.cells c t)).cell? ⟨W.heap.size, i, none⟩ = some v := by
  have := World.alloc_heap_new W (.cells c t)
  unfold World.cell?
  rw [this]
  exact h

/-- block B holds the cells cs -/
def BoxC (W : World) (B : Nat) (t : TypeId) (cs : Array Value) : Prop := W.heap[B]? = some (.cells cs t (0, 0))

theorem BoxC.lt {W : World} {B : Nat} {t : TypeId} {cs : Array Value} (h : BoxC W B t cs) : B < W.heap.size := heap_lt h
theorem BoxC.cell {W : World} {B : Nat} {t : TypeId} {cs : Array Value} (h : BoxC W B t cs) (i : Nat) {v : Value} (hv : cs[i]? = some v) : W.cell? ⟨B, i, none⟩ = some v := by
  unfold World.cell?
  rw [show W.heap[B]? = _ from h]
  exact hv
theorem BoxC.frozen {W : World} {B : Nat} {t : TypeId} {cs : Array Value} (h : BoxC W B t cs) (i : Nat) : W.frozen? ⟨B, i, none⟩ = false := by
  unfold World.frozen?
  rw [show W.heap[B]? = _ from h]
  simp
theorem BoxC.new (W : World) (t : TypeId) (cs : Array Value) : BoxC (W.alloc (.cells cs t)) W.heap.size t cs := World.alloc_heap_new W _
theorem BoxC.kept {W W' : World} {row : Option Nat} {B : Nat} {t : TypeId} {cs : Array Value} (h : BoxC W B t cs) (hg : W.grownBy W' row) (hne : some B ≠ row) : BoxC W' B t cs := (hg.block B h.lt hne).trans h
theorem BoxC.alloc {W : World} {B : Nat} {t : TypeId} {cs : Array Value} (h : BoxC W B t cs) (o : Obj) : BoxC (W.alloc o) B t cs := (Below.heap_alloc W o B h.lt).trans h
theorem BoxC.drew {W : World} {B : Nat} {t : TypeId} {cs : Array Value} (h : BoxC W B t cs) : BoxC W.drew B t cs := h
theorem BoxC.below {W W' : World} {B n : Nat} {t : TypeId} {cs : Array Value} (h : BoxC W B t cs) (hb : Below n W W') (hn : B < n) : BoxC W' B t cs := (hb.block B hn).trans h
theorem BoxC.grown {W W' : World} {B : Nat} {t : TypeId} {cs : Array Value} (h : BoxC W B t cs) (hb : Below W.heap.size W W') : BoxC W' B t cs := h.below hb h.lt
theorem BoxC.keeps {m : Nat → Prop} {Bo : Option Nat} {W W' : World} {B : Nat} {t : TypeId} {cs : Array Value} (h : BoxC W B t cs) (hk : Keeps m Bo W W') (hn : ¬ fpB m Bo W B) : BoxC W' B t cs := hk.same B _ hn h rfl
theorem BoxC.other {W : World} {B : Nat} {t : TypeId} {cs : Array Value} (h : BoxC W B t cs) {p : Addr} (hne : B ≠ p.block) (u : Value) : BoxC (W.setCell p u) B t cs := (Below.heap_setCell W p u B hne).trans h
theorem BoxC.set {W : World} {B : Nat} {t : TypeId} {cs : Array Value} (h : BoxC W B t cs) (i : Nat) (v : Value) : BoxC (W.setCell ⟨B, i, none⟩ v) B t (cs.setIfInBounds i v) := by
  obtain ⟨hlt, hk⟩ := Array.getElem?_eq_some_iff.1 h
  show (W.heap.modify B _)[B]? = _
  rw [Array.getElem?_eq_getElem (by rw [Array.size_modify]; exact hlt), Array.getElem_modify_self, hk]
  rfl
theorem BoxC.putObj {W : World} {B : Nat} {t : TypeId} {cs : Array Value} (h : BoxC W B t cs) {l : Nat} {o : Obj} (o' : Obj) (hl : W.heap[l]? = some o) (ho : o.isCells = false) : BoxC (W.putObj l o') B t cs :=
  (World.putObj_heap_other (fun e => by subst e; rw [show W.heap[B]? = _ from h] at hl; cases hl; cases ho)).trans h
theorem boxC_own {β : Type} (B : Nat) (t : TypeId) (f : β → Array Value) : Own (fun s W => BoxC W B t (f s)) := fun s X Y row hs hg hrow =>
  hs.kept hg (fun e' => by obtain ⟨o, ho, hc⟩ := hrow B e'.symm; rw [show X.heap[B]? = _ from hs] at ho; cases ho; cases hc)
theorem keepsFrom_grown {B : Nat} {W W' : World} (h : Below W.heap.size W W') : KeepsFrom B W W' := KeepsFrom.of_grownBy (below_grown h) (by simp)

/-- a function that held one range over a function returns -/
theorem endM {F : Fence} {n : Nat} {P : Program} {fn : Func} {R : Ending → World → Prop} {tmps : Array Value} {D : Nat} {v : Value} {W : World} (hK : W.heap[D]? = some (.deferred (some [])))
    (hr : (results fn tmps).run P (W.putObj D (.deferred none)) = .ok v (W.putObj D (.deferred none))) (hR : R (.returned v) (W.putObj D (.deferred none))) :
    bodyPostM F n P fn R .ret { tmps := tmps, defers := [{ target := .collected D, args := #[] }] } W :=
  ⟨by simp, .inl ⟨_, _, rfl, run_takeDeferred hK, ⟨v, hr, hR⟩⟩⟩

theorem endM0 {F : Fence} {n : Nat} {P : Program} {fn : Func} {R : Ending → World → Prop} {tmps : Array Value} {v : Value} {W : World}
    (hr : (results fn tmps).run P W = .ok v W) (hR : R (.returned v) W) : bodyPostM F n P fn R .ret { tmps := tmps, defers := [] } W := ⟨v, hr, hR⟩

theorem below_putObj {n₀ : Nat} {W0 W : World} {D : Nat} {o : Obj} (h : Below n₀ W0 W) (o' : Obj) (hD : n₀ ≤ D) (hK : W.heap[D]? = some o) : Below n₀ W0 (W.putObj D o') :=
  h.grown (grownBy_putObj' W D o') (by have := heap_lt hK; omega) (fun k e => by cases e; exact hD)

/-- the first index below n with a property -/
def firstF (p : Nat → Bool) (n : Nat) : Int × Bool :=
  match (List.range n).find? p with
  | some i => (i, true)
  | none => (0, false)

theorem firstF_none {p : Nat → Bool} {n : Nat} (h : ∀ x ∈ List.finRange n, p x.val = false) : firstF p n = (0, false) := by
  have : (List.range n).find? p = none := by
    rw [List.find?_eq_none]
    intro i hi
    have hi' : i < n := by simpa using hi
    have := h ⟨i, hi'⟩ (List.mem_finRange _)
    simp at this
    simp [this]
  simp [firstF, this]

theorem firstF_some {p : Nat → Bool} {n : Nat} {pre : List (Fin n)} {x : Fin n} (hp : pre ++ [x] <+: List.finRange n) (h : ∀ y ∈ pre, p y.val = false) (hx : p x.val = true) : firstF p n = ((x.val : Int), true) := by
  obtain ⟨t, ht⟩ := hp
  have hv : ∀ i (hi : i < pre.length), (pre[i]).val = i := by
    intro i hi
    have h1 : (List.finRange n)[i]? = some pre[i] := by rw [← ht]; simp [List.getElem?_append, hi]
    rw [List.getElem?_eq_some_iff] at h1
    obtain ⟨h2, h3⟩ := h1
    rw [← h3]; simp
  have hxv : x.val = pre.length := by
    have h1 : (List.finRange n)[pre.length]? = some x := by rw [← ht]; simp
    rw [List.getElem?_eq_some_iff] at h1
    obtain ⟨h2, h3⟩ := h1
    rw [← h3]; simp
  have : (List.range n).find? p = some x.val := by
    rw [List.find?_range_eq_some]
    refine ⟨hx, by simp, fun j hj => ?_⟩
    have hj' : j < pre.length := by omega
    have := h pre[j] (List.getElem_mem hj')
    rw [hv j hj'] at this
    simp [this]
  simp [firstF, this]

theorem grownBy_setCell (W : World) (p : Addr) (v : Value) : W.grownBy (W.setCell p v) (some p.block) :=
  ⟨rfl, rfl, rfl, (KeepsWalks.setCell W _ v).size, fun k _ hk => Below.heap_setCell _ _ _ k (fun e => hk (by rw [e]))⟩
theorem grownBy_trans {X Y Z : World} {r : Option Nat} (h : X.grownBy Y r) (g : Y.grownBy Z r) : X.grownBy Z r :=
  ⟨g.os.trans h.os, g.tape.trans h.tape, g.output.trans h.output, Nat.le_trans h.size g.size, fun k hk hr => (g.block k (Nat.lt_of_lt_of_le hk h.size) hr).trans (h.block k hk hr)⟩

/-- what a function hands back where the error is OK, and where it is not -/
def ifOk (d : Int) (a b : Value) : Value := if d = 0 then a else b
theorem ifOk_zero (a b : Value) : ifOk 0 a b = a := rfl
theorem ifOk_ne {d : Int} (h : d ≠ 0) (a b : Value) : ifOk d a b = b := if_neg h

theorem add_at (b j : Nat) : ((⟨b, 0, none⟩ : Addr).add j) = ⟨b, j, none⟩ := by
  unfold Addr.add
  split
  · rename_i h; subst h; rfl
  · simp

theorem cells_new (w : World) (cs : List Value) (t : TypeId) : ∀ j u, cs[j]? = some u → (w.alloc (.cells cs.toArray t)).cell? ((⟨w.heap.size, 0, none⟩ : Addr).add j) = some u := by
  intro j u h
  rw [add_at]
  exact cell_new w _ t j u (by simpa using h)

/-- the value v is a slice of n elements whose cells are cs -/
def FlatSl (w : World) (v : Value) (n : Nat) (cs : List Value) : Prop :=
  (v = .slice none 0 0 ∧ n = 0 ∧ cs = []) ∨ ∃ b cap, v = .slice (some ⟨b, 0, none⟩) n cap ∧ b < w.heap.size ∧ ∀ j u, cs[j]? = some u → w.cell? ⟨b, j, none⟩ = some u

theorem FlatSl.of_owns {w : World} {base : Nat} {e : TypeId} {size : Nat} {v : Value} {n : Nat} {xs : List Value} (h : w.ownsRow base e size v n xs) : FlatSl w v n xs := by
  have hc := fun g hg => h.cells (g := g) hg
  obtain ⟨h1, h2 | ⟨g, cap, cur, rfl, h3, h4, h5⟩⟩ := h
  · obtain ⟨rfl, rfl⟩ := h2
    exact .inl ⟨rfl, rfl, List.eq_nil_of_length_eq_zero (by simpa using h1)⟩
  · exact .inr ⟨g, cap, rfl, heap_lt h4, fun j u hj => by have := hc g rfl j u hj; rwa [add_at] at this⟩

theorem FlatSl.mono {w w' : World} {v : Value} {n : Nat} {cs : List Value} (h : FlatSl w v n cs) (hb : Below w.heap.size w w') : FlatSl w' v n cs := by
  rcases h with h | ⟨b, cap, h1, h2, h3⟩
  · exact .inl h
  · exact .inr ⟨b, cap, h1, Nat.lt_of_lt_of_le h2 hb.size, fun j u hj => (hb.cell (p := ⟨b, j, none⟩) h2).trans (h3 j u hj)⟩

theorem FlatSl.len {w : World} {v : Value} {n : Nat} {cs : List Value} (h : FlatSl w v n cs) : ∃ a cap, v = .slice a n cap := by
  rcases h with ⟨rfl, rfl, _⟩ | ⟨b, cap, rfl, _⟩
  · exact ⟨none, 0, rfl⟩
  · exact ⟨_, cap, rfl⟩

theorem FlatSl.keeps {m : Nat → Prop} {B : Option Nat} {w w' : World} {v : Value} {n : Nat} {cs : List Value} (h : FlatSl w v n cs) (hk : Keeps m B w w') (hn : ∀ b, v.ownBlock = some b → ¬ fpB m B w b) : FlatSl w' v n cs := by
  rcases h with h | ⟨b, cap, rfl, h2, h3⟩
  · exact .inl h
  · exact .inr ⟨b, cap, rfl, Nat.lt_of_lt_of_le h2 hk.size, fun j u hj => hk.cell (p := ⟨b, j, none⟩) (hn b rfl) (h3 j u hj)⟩

theorem ownsRow_put {W : World} {base : Nat} {e : TypeId} {size : Nat} {v : Value} {k : Nat} {xs : List Value} (h : W.ownsRow base e size v k xs) {l : Nat} {o : Obj} (o' : Obj) (hl : W.heap[l]? = some o) (ho : o.isCells = false) : (W.putObj l o').ownsRow base e size v k xs := by
  obtain ⟨h1, h2⟩ := h
  refine ⟨h1, ?_⟩
  rcases h2 with h2 | ⟨g, cap, cur, h3, h4, h5, h6⟩
  · exact .inl h2
  · exact .inr ⟨g, cap, cur, h3, h4, (World.putObj_heap_other (fun e => by subst e; rw [h5] at hl; cases hl; cases ho)).trans h5, h6⟩

theorem below_undrew {W w' : World} (h : Below W.drew.heap.size W.drew w') : Below W.heap.size W w' := ⟨h.os, h.tape, h.output, h.size, h.block⟩

theorem ownsRow_grown {W W' : World} {base : Nat} {e : TypeId} {size : Nat} {v : Value} {k : Nat} {xs : List Value} (h : W.ownsRow base e size v k xs) (hb : Below W.heap.size W W') : W'.ownsRow base e size v k xs := by
  obtain ⟨h1, h2⟩ := h
  refine ⟨h1, ?_⟩
  rcases h2 with h2 | ⟨g, cap, cur, h3, h4, h5, h6⟩
  · exact .inl h2
  · exact .inr ⟨g, cap, cur, h3, h4, (hb.block g (heap_lt h5)).trans h5, h6⟩
/-- the row lies where the world was -/
theorem ownsRow_old {W : World} {base : Nat} {e : TypeId} {size : Nat} {v : Value} {k : Nat} {xs : List Value} (h : W.ownsRow base e size v k xs) {B : Nat} (hB : W.heap.size ≤ B) : some B ≠ v.ownBlock := by
  rcases h.2 with ⟨rfl, _⟩ | ⟨g, cap, cur, rfl, _, h5, _⟩
  · simp [Value.ownBlock]
  · have := heap_lt h5
    simp [Value.ownBlock]; omega
theorem ownsRow_low {W : World} {base : Nat} {e : TypeId} {size : Nat} {v : Value} {k : Nat} {xs : List Value} (h : W.ownsRow base e size v k xs) : ∀ i, v.ownBlock = some i → base ≤ i := by
  intro i hi
  rcases h.2 with ⟨rfl, _⟩ | ⟨g, cap, cur, rfl, hb, _⟩
  · cases hi
  · cases hi; exact hb

theorem take_fin {n k : Nat} (hk : k < n) : (List.finRange n).take (k + 1) = (List.finRange n).take k ++ [⟨k, hk⟩] := by
  rw [List.take_succ_eq_append_getElem (by simpa using hk)]; simp

end Go.Proofs.Ytgnamahdchefnaa
