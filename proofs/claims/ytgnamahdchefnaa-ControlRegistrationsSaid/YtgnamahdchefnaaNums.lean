/- Rows of numbers and of truths of a call's own; lists of lists; what a region that makes memory may do. Lemmas on worlds; no program. Conditions: none. -/
import Derived.Test.YtgnamahdchefnaaScan
import Derived.Test.YtgnamahdchefnaaMakers
import Derived.Deep.AppendLies
import Derived.Laws.OwnMore
import Derived.Lib.SliceRun
namespace Go.Proofs.Ytgnamahdchefnaa
open Go.RowKit Go.Shelf

theorem neq_of {d : Int} (h : d ≠ 0) : (d == 0) = false ∧ (d != 0) = true := by simp [h]
theorem NumSl.lenV {K : IntKind} {w : World} {v : Value} {xs : List Int} {n : Nat} (h : NumSl K w v xs) (hl : xs.length = n) : ∃ a cap, v = .slice a n cap := by subst hl; exact h.len
theorem nth_set {xs : List Int} {i : Nat} (hi : i < xs.length) (z : Int) (j : Nat) : nth (xs.set i z) j = if j = i then z else nth xs j := by
  unfold nth
  rw [List.getElem?_set]
  by_cases h : j = i
  · subst h; simp [hi]
  · simp [h, Ne.symm h]
theorem nth_over {xs : List Int} {k : Nat} (h : xs.length ≤ k) : nth xs k = 0 := by simp [nth, h]
def zeros (n : Nat) : List Int := List.replicate n 0
theorem zeros_len (n : Nat) : (zeros n).length = n := by simp [zeros]
theorem nth_zeros (n k : Nat) : nth (zeros n) k = 0 := by
  unfold nth zeros
  rw [List.getElem?_replicate]
  split <;> rfl
theorem ext_nth {xs ys : List Int} (hl : xs.length = ys.length) (h : ∀ k, k < xs.length → nth xs k = nth ys k) : xs = ys := by
  apply List.ext_getElem hl
  intro k h1 h2
  rw [← nth_lt h1, ← nth_lt h2]
  exact h k h1
/-- the k-th truth -/
def nthb (bs : List Bool) (k : Nat) : Bool := bs[k]?.getD false
theorem nthb_lt {bs : List Bool} {k : Nat} (h : k < bs.length) : nthb bs k = bs[k] := by simp [nthb, h]
theorem nthb_set {bs : List Bool} {i : Nat} (hi : i < bs.length) (z : Bool) (j : Nat) : nthb (bs.set i z) j = if j = i then z else nthb bs j := by
  unfold nthb
  rw [List.getElem?_set]
  by_cases h : j = i
  · subst h; simp [hi]
  · simp [h, Ne.symm h]
/-- v is a slice of the n numbers xs; they lie in the row g, if there are any -/
def RowG (base g : Nat) (v : Value) (n : Nat) (xs : List Int) (W : World) : Prop :=
  xs.length = n ∧ (0 < n → ∃ cap, v = .slice (some ⟨g, 0, none⟩) n cap ∧ W.ownsRow base 3 1 (.slice (some ⟨g, 0, none⟩) n cap) n (xs.map (Value.int .i64)))
section
variable {base g n : Nat} {v : Value} {xs : List Int} {W W' : World}
theorem RowG.lt (h : RowG base g v n xs W) (hn : 0 < n) : base ≤ g ∧ g < W.heap.size := by
  obtain ⟨cap, _, ho⟩ := h.2 hn
  exact ho.lt g rfl
theorem RowG.kept {row : Option Nat} (h : RowG base g v n xs W) (hg : W.grownBy W' row) (hne : 0 < n → row ≠ some g) : RowG base g v n xs W' :=
  ⟨h.1, fun hn => by obtain ⟨cap, h1, h2⟩ := h.2 hn; exact ⟨cap, h1, h2.kept hg (.inr (fun e => hne hn (by rw [← e]; rfl)))⟩⟩
theorem RowG.grown (h : RowG base g v n xs W) (hb : Below W.heap.size W W') : RowG base g v n xs W' := h.kept (below_grown hb) (fun _ => by simp)
theorem RowG.drew (h : RowG base g v n xs W) : RowG base g v n xs W.drew := h
theorem RowG.cell (h : RowG base g v n xs W) {i : Nat} (hi : i < n) : W.cell? ⟨g, i, none⟩ = some (.int .i64 (nth xs i)) := by
  obtain ⟨cap, _, ho⟩ := h.2 (by omega)
  have := ho.cellAt i (by omega)
  have hl := h.1
  rw [this]
  simp [show i < xs.length by omega, nth_lt (show i < xs.length by omega)]
theorem RowG.frozen (h : RowG base g v n xs W) (hn : 0 < n) (i : Nat) : W.frozen? ⟨g, i, none⟩ = false := by
  obtain ⟨cap, _, ho⟩ := h.2 hn
  exact ho.frozenAt i
theorem RowG.set (h : RowG base g v n xs W) (i : Nat) (z : Int) : RowG base g v n (xs.set i z) (W.setCell ⟨g, i, none⟩ (.int .i64 z)) :=
  ⟨by simp [h.1], fun hn => by
    obtain ⟨cap, h1, h2⟩ := h.2 hn
    have := (h2.stored i (.int .i64 z)).1
    rw [show (xs.map (Value.int .i64)).set i (.int .i64 z) = (xs.set i z).map (Value.int .i64) by simp [List.map_set]] at this
    exact ⟨cap, h1, this⟩⟩
theorem RowG.other (h : RowG base g v n xs W) {p : Addr} (hne : 0 < n → p.block ≠ g) (u : Value) : RowG base g v n xs (W.setCell p u) :=
  h.kept (grownBy_setCell W p u) (fun hn e => hne hn (by simpa using e))
theorem RowG.num (h : RowG base g v n xs W) (hv : ∃ a c, v = .slice a n c) : NumSl .i64 W v xs := by
  rcases Nat.eq_zero_or_pos n with h0 | h0
  · subst h0
    obtain ⟨a, c, rfl⟩ := hv
    exact .inl ⟨⟨a, c, rfl⟩, List.eq_nil_of_length_eq_zero h.1⟩
  · obtain ⟨cap, h1, _⟩ := h.2 h0
    have hl := h.1
    subst hl
    exact .inr ⟨g, 0, cap, h1, fun i hi => by rw [Nat.zero_add]; exact h.cell hi⟩
/-- a box of another type is another block -/
theorem RowG.ne_box (h : RowG base g v n xs W) {B : Nat} {t : TypeId} {cs : Array Value} (hB : BoxC W B t cs) (ht : t ≠ 3) : 0 < n → B ≠ g := by
  intro hn e
  subst e
  obtain ⟨cap, _, h2⟩ := h.2 hn
  rcases h2.2 with ⟨h3, _⟩ | ⟨g', cap', cur, h3, _, h5, _⟩
  · cases h3
  · cases h3
    rw [show W.heap[_]? = _ from hB] at h5
    cases h5
    exact ht rfl
theorem RowG.cells (h : RowG base g v n xs W) (hn : 0 < n) : ∃ o : Obj, W.heap[g]? = some o ∧ o.isCells = true := by
  obtain ⟨cap, _, h2⟩ := h.2 hn
  rcases h2.2 with ⟨h3, _⟩ | ⟨g', cap', cur, h3, _, h5, _⟩
  · cases h3
  · cases h3
    exact ⟨_, h5, rfl⟩
end
theorem RowG.low {X : World} {v : Value} {base base' g n : Nat} {xs : List Int} (h : RowG base g v n xs X) (hb : base' ≤ base) : RowG base' g v n xs X := by
  obtain ⟨q1, q2⟩ := h
  refine ⟨q1, fun hn => ?_⟩
  obtain ⟨cap, q3, q4, q5⟩ := q2 hn
  refine ⟨cap, q3, q4, ?_⟩
  rcases q5 with q5 | ⟨g', cap', cur, r1, r2, r3⟩
  · exact .inl q5
  · exact .inr ⟨g', cap', cur, r1, by omega, r3⟩
theorem below_row {W W' : World} (h : Below W.heap.size W W') (row : Option Nat) : W.grownBy W' row := ⟨h.os, h.tape, h.output, h.size, fun k hk _ => h.block k hk⟩
theorem grown_drew1 {a c : World} {row : Option Nat} (h : a.grownBy c row) : a.grownBy c.drew row := ⟨h.os, h.tape, h.output, h.size, h.block⟩
theorem grown_high {a c : World} {row : Option Nat} (h : a.grownBy c row) {p : Addr} (hp : a.heap.size ≤ p.block) (u : Value) : a.grownBy (c.setCell p u) row :=
  ⟨h.os, h.tape, h.output, Nat.le_trans h.size (KeepsWalks.setCell c p u).size, fun k hk hne => (Below.heap_setCell c p u k (by omega)).trans (h.block k hk hne)⟩
theorem NumSl.kept {K : IntKind} {w w' : World} {v : Value} {xs : List Int} {row : Option Nat} (h : NumSl K w v xs) (hg : w.grownBy w' row) (hne : ∀ b, v.ownBlock = some b → 0 < xs.length → row ≠ some b) : NumSl K w' v xs := by
  rcases h with h | ⟨b, off, cap, rfl, hc⟩
  · exact .inl h
  · exact .inr ⟨b, off, cap, rfl, fun i hi => hg.cell (a := ⟨b, off + i, none⟩) (hc i hi) (fun e => hne b rfl (by omega) e.symm)⟩
theorem NumSl.atN {K : IntKind} {w : World} {v : Value} {xs : List Int} {n : Nat} (h : NumSl K w v xs) (hl : xs.length = n) {k : Nat} (hk : k < n) : ∃ b off cap, v = .slice (some ⟨b, off, none⟩) n cap ∧ ∀ i, i < n → w.cell? ⟨b, off + i, none⟩ = some (.int K (nth xs i)) := by
  subst hl
  exact h.at hk

/-- an empty row that was just made -/
theorem own_empty (w : World) (e : TypeId) : (w.alloc (.cells #[] e)).ownsRow w.heap.size e 1 (.slice (some ⟨w.heap.size, 0, none⟩) 0 0) 0 [] :=
  ⟨rfl, .inr ⟨w.heap.size, 0, #[], rfl, Nat.le_refl _, World.alloc_heap_new w _, by omega, by unfold maxLen; omega, rfl, rfl⟩⟩
theorem news_of {K : IntKind} {w : World} {b off cap : Nat} {xs : List Int} (h : NumSl K w (.slice (some ⟨b, off, none⟩) xs.length cap) xs) : ∀ (j : Nat) (u : Value), (xs.map (Value.int K))[j]? = some u → w.cell? ((⟨b, off, none⟩ : Addr).add j) = some u := by
  intro j u hu
  rw [WideShapes.add_plain]
  have hj : j < xs.length := by
    rcases Nat.lt_or_ge j xs.length with h1 | h1
    · exact h1
    · simp [h1] at hu
  obtain ⟨b', off', cap', he, hc⟩ := h.at hj
  cases he
  rw [hc j hj]
  simp [hj] at hu
  rw [← hu, nth_lt hj]
/-- the k-th list -/
def nths (xss : List (List Int)) (k : Nat) : List Int := xss[k]?.getD []
/-- v reads in w as the lists xss of numbers -/
def SlSl (w : World) (v : Value) (xss : List (List Int)) : Prop :=
  ((∃ a cap, v = .slice a 0 cap) ∧ xss = []) ∨ ∃ b off cap, v = .slice (some ⟨b, off, none⟩) xss.length cap ∧ b < w.heap.size ∧
    ∀ i, i < xss.length → ∃ u, w.cell? ⟨b, off + i, none⟩ = some u ∧ NumSl .i64 w u (nths xss i)
section
variable {w w' : World} {v : Value} {xss : List (List Int)}
theorem SlSl.len (h : SlSl w v xss) : ∃ a cap, v = .slice a xss.length cap := by
  rcases h with ⟨⟨a, cap, rfl⟩, rfl⟩ | ⟨b, off, cap, rfl, _, _⟩
  · exact ⟨a, cap, rfl⟩
  · exact ⟨_, cap, rfl⟩
theorem SlSl.mono (h : SlSl w v xss) (hb : Below w.heap.size w w') : SlSl w' v xss := by
  rcases h with h | ⟨b, off, cap, rfl, hl, hc⟩
  · exact .inl h
  · refine .inr ⟨b, off, cap, rfl, Nat.lt_of_lt_of_le hl hb.size, fun i hi => ?_⟩
    obtain ⟨u, h1, h2⟩ := hc i hi
    exact ⟨u, (hb.cell (p := ⟨b, off + i, none⟩) hl).trans h1, h2.mono hb⟩
theorem SlSl.at (h : SlSl w v xss) {k : Nat} (hk : k < xss.length) : ∃ b off cap, v = .slice (some ⟨b, off, none⟩) xss.length cap ∧ b < w.heap.size ∧
    ∀ i, i < xss.length → ∃ u, w.cell? ⟨b, off + i, none⟩ = some u ∧ NumSl .i64 w u (nths xss i) := by
  rcases h with ⟨_, rfl⟩ | h
  · simp at hk
  · exact h
end
theorem ownsRow_kept {W W' : World} {row : Option Nat} {base : Nat} {e : TypeId} {size : Nat} {v : Value} {k : Nat} {xs : List Value} (h : W.ownsRow base e size v k xs) (hg : W.grownBy W' row) (hne : ∀ b, v.ownBlock = some b → row ≠ some b) : W'.ownsRow base e size v k xs := by
  obtain ⟨h1, h2 | ⟨g, cap, cur, rfl, h3, h4, h5⟩⟩ := h
  · exact ⟨h1, .inl h2⟩
  · exact ⟨h1, .inr ⟨g, cap, cur, rfl, h3, (hg.block g (heap_lt h4) (fun e => hne g rfl e.symm)).trans h4, h5⟩⟩

theorem one_news {W : World} {g : Nat} {t : TypeId} {u : Value} (h : BoxC W g t #[u]) : ∀ j x, [u][j]? = some x → W.cell? ((⟨g, 0, none⟩ : Addr).add j) = some x := fun j x hj => by
  cases j with
  | zero => simp at hj; subst hj; exact h.cell 0 rfl
  | succ j => simp at hj

theorem boxC_not_row {W : World} {B : Nat} {t e : TypeId} {cs : Array Value} {base size k : Nat} {v : Value} {xs : List Value} (h : BoxC W B t cs) (hte : t ≠ e) (hr : W.ownsRow base e size v k xs) : some B ≠ v.ownBlock := by
  intro e1
  obtain ⟨_, ⟨rfl, _⟩ | ⟨g, cap, cur, rfl, _, h4, _⟩⟩ := hr
  · cases e1
  · obtain rfl : B = g := by simpa [Value.ownBlock] using e1
    rw [show W.heap[B]? = _ from h] at h4
    cases h4
    exact hte rfl

theorem wp_enter {P : Program} {o : Oper} {a : Act} {X : World} {K : Act → World → Prop} {Q : Exit → Act → World → Prop} {f : FuncId} {args : Array Value} (h : (execOp a.eval o).run P X = .ok (.enter f args) X) (hk : Calls P f args X (fun e X' => ∃ v, e = .returned v ∧ K (a.put o.dst v) X')) : o.wp P a X K Q := by
  unfold Oper.wp
  rw [h]
  refine hk.mono ?_
  rintro e X' ⟨v, rfl, h2⟩
  exact h2

/-- the law of regions that make memory, from any frame on -/
theorem region_makers_at {P : Program} {ops : Array Oper} {Q : Exit → Act → World → Prop} {id : Nat} {W : World} (n : Nat) (F : (Nat → Value) → Array Value) (s0 : Nat → Value) (ds : List Deferred) (Sp : Nat → Value → World → Prop) (Base : World → Prop) (mk : Nat → Value → Option Nat)
    (hm : P.follows .mixedOrders = true) (hB : makersB ops n = true) (h0 : Base W.drew)
    (step : ∀ i o, i < n → ops[i]? = some o → ∀ (s : Nat → Value) (X : World), Base X → (∀ e ∈ o.after, Sp e.on (s e.on) X) → (∀ e ∈ o.after, ∀ e' ∈ o.after, e.on ≠ e'.on → ∀ b, mk e.on (s e.on) = some b → mk e'.on (s e'.on) ≠ some b) →
      Oper.wp P o { tmps := F s, defers := ds } X (fun a' X' => ∃ v, a' = { tmps := F (upd s i v), defers := ds } ∧ Base X' ∧ Sp i v X' ∧ Below X.heap.size X X' ∧ ∀ b, mk i v = some b → X.heap.size ≤ b ∧ b < X'.heap.size) Q)
    (stable : ∀ j u X X', Base X → Sp j u X → Below X.heap.size X X' → Sp j u X')
    (tail : ∀ o, ops[n]? = some o → ∀ (s : Nat → Value) (X : World), Base X → (∀ i, i < n → Sp i (s i) X) → (∀ i, i < n → ∀ b, mk i (s i) = some b → b < X.heap.size) → (∀ i j b, i < n → j < n → i ≠ j → mk i (s i) = some b → mk j (s j) ≠ some b) →
      Oper.wp P o { tmps := F s, defers := ds } X (Q .normal) Q) :
    (Code.region id ops true).wp P Q { tmps := F s0, defers := ds } W := by
  have hsz := makersB_size hB
  have none_yet : ∀ i, ¬ (Array.replicate ops.size false).getD i false = true := fun i hi => by
    rw [Array.getD_eq_getD_getElem?] at hi
    by_cases h : i < ops.size
    · simp [h] at hi
    · simp [h] at hi
  refine wp_region_any hm (wpAny_makers hB step stable tail ops.size _ s0 W.drew (by simp) (by simp) (by simp [hsz]) h0 (fun i hi => absurd hi (none_yet i)) (fun i hi => absurd hi (none_yet i)) (fun i _ _ hi => absurd hi (none_yet i)))

/-- v is a slice of the n truths xs; they lie in the row g, if there are any -/
def RowB (base g : Nat) (v : Value) (n : Nat) (xs : List Bool) (W : World) : Prop :=
  xs.length = n ∧ (0 < n → ∃ cap, v = .slice (some ⟨g, 0, none⟩) n cap ∧ W.ownsRow base 4 1 (.slice (some ⟨g, 0, none⟩) n cap) n (xs.map Value.bool))
section
variable {base g n : Nat} {v : Value} {xs : List Bool} {W W' : World}
theorem RowB.lt (h : RowB base g v n xs W) (hn : 0 < n) : base ≤ g ∧ g < W.heap.size := by
  obtain ⟨cap, _, ho⟩ := h.2 hn
  exact ho.lt g rfl
theorem RowB.kept {row : Option Nat} (h : RowB base g v n xs W) (hg : W.grownBy W' row) (hne : 0 < n → row ≠ some g) : RowB base g v n xs W' :=
  ⟨h.1, fun hn => by obtain ⟨cap, h1, h2⟩ := h.2 hn; exact ⟨cap, h1, h2.kept hg (.inr (fun e => hne hn (by rw [← e]; rfl)))⟩⟩
theorem RowB.grown (h : RowB base g v n xs W) (hb : Below W.heap.size W W') : RowB base g v n xs W' := h.kept (below_grown hb) (fun _ => by simp)
theorem RowB.drew (h : RowB base g v n xs W) : RowB base g v n xs W.drew := h
theorem RowB.cell (h : RowB base g v n xs W) {i : Nat} (hi : i < n) : W.cell? ⟨g, i, none⟩ = some (.bool (nthb xs i)) := by
  obtain ⟨cap, _, ho⟩ := h.2 (by omega)
  have := ho.cellAt i (by omega)
  have hl := h.1
  rw [this]
  simp [show i < xs.length by omega, nthb_lt (show i < xs.length by omega)]
theorem RowB.frozen (h : RowB base g v n xs W) (hn : 0 < n) (i : Nat) : W.frozen? ⟨g, i, none⟩ = false := by
  obtain ⟨cap, _, ho⟩ := h.2 hn
  exact ho.frozenAt i
theorem RowB.set (h : RowB base g v n xs W) (i : Nat) (z : Bool) : RowB base g v n (xs.set i z) (W.setCell ⟨g, i, none⟩ (.bool z)) :=
  ⟨by simp [h.1], fun hn => by
    obtain ⟨cap, h1, h2⟩ := h.2 hn
    have := (h2.stored i (.bool z)).1
    rw [show (xs.map Value.bool).set i (.bool z) = (xs.set i z).map Value.bool by simp [List.map_set]] at this
    exact ⟨cap, h1, this⟩⟩
theorem RowB.other (h : RowB base g v n xs W) {p : Addr} (hne : 0 < n → p.block ≠ g) (u : Value) : RowB base g v n xs (W.setCell p u) :=
  h.kept (grownBy_setCell W p u) (fun hn e => hne hn (by simpa using e))
/-- a box of another type is another block -/
theorem RowB.ne_box (h : RowB base g v n xs W) {B : Nat} {t : TypeId} {cs : Array Value} (hB : BoxC W B t cs) (ht : t ≠ 4) : 0 < n → B ≠ g := by
  intro hn e
  subst e
  obtain ⟨cap, _, h2⟩ := h.2 hn
  rcases h2.2 with ⟨h3, _⟩ | ⟨g', cap', cur, h3, _, h5, _⟩
  · cases h3
  · cases h3
    rw [show W.heap[_]? = _ from hB] at h5
    cases h5
    exact ht rfl
theorem RowB.cells (h : RowB base g v n xs W) (hn : 0 < n) : ∃ o : Obj, W.heap[g]? = some o ∧ o.isCells = true := by
  obtain ⟨cap, _, h2⟩ := h.2 hn
  rcases h2.2 with ⟨h3, _⟩ | ⟨g', cap', cur, h3, _, h5, _⟩
  · cases h3
  · cases h3
    exact ⟨_, h5, rfl⟩
end
end Go.Proofs.Ytgnamahdchefnaa
