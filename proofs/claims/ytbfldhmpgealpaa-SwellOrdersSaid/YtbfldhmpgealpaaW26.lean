/- Rows of truths of a call's own; which places of an order have been seen. Conditions: rows of at most 1000 truths. -/
import Derived.Test.YtbfldhmpgealpaaW25
import Derived.Laws.OwnMore
import Derived.Lib.SliceRun
namespace Go.Proofs.Ytbfldhmpgealpaa
open Go Go.RowKit Go.Shelf

/-- the k-th truth -/
def nthb (bs : List Bool) (k : Nat) : Bool := bs[k]?.getD false
theorem nthb_lt {bs : List Bool} {k : Nat} (h : k < bs.length) : nthb bs k = bs[k] := by simp [nthb, h]
theorem nthb_set {bs : List Bool} {i : Nat} (hi : i < bs.length) (z : Bool) (j : Nat) : nthb (bs.set i z) j = if j = i then z else nthb bs j := by
  unfold nthb
  rw [List.getElem?_set]
  by_cases h : j = i
  · subst h; simp [hi]
  · simp [h, Ne.symm h]
/-- v is a slice of the n truths xs; they lie in the row g, if there are any -/
def RowB (base g : Nat) (v : Value) (n : Nat) (xs : List Bool) (W : World) : Prop :=
  xs.length = n ∧ (0 < n → ∃ cap, v = .slice (some ⟨g, 0, none⟩) n cap ∧ W.ownsRow base 4 1 (.slice (some ⟨g, 0, none⟩) n cap) n (xs.map Value.bool))
section
variable {base g n : Nat} {v : Value} {xs : List Bool} {W W' : World}
theorem RowB.lt (h : RowB base g v n xs W) (hn : 0 < n) : base ≤ g ∧ g < W.heap.size := by
  obtain ⟨cap, _, ho⟩ := h.2 hn
  exact ho.lt g rfl
theorem RowB.kept {row : Option Nat} (h : RowB base g v n xs W) (hg : W.grownBy W' row) (hne : 0 < n → row ≠ some g) : RowB base g v n xs W' :=
  ⟨h.1, fun hn => by obtain ⟨cap, h1, h2⟩ := h.2 hn; exact ⟨cap, h1, h2.kept hg (.inr (fun e => hne hn (by rw [← e]; rfl)))⟩⟩
theorem RowB.grown (h : RowB base g v n xs W) (hb : Below W.heap.size W W') : RowB base g v n xs W' := h.kept (below_grown hb) (fun _ => by simp)
theorem RowB.drew (h : RowB base g v n xs W) : RowB base g v n xs W.drew := h
theorem RowB.cell (h : RowB base g v n xs W) {i : Nat} (hi : i < n) : W.cell? ⟨g, i, none⟩ = some (.bool (nthb xs i)) := by
  obtain ⟨cap, _, ho⟩ := h.2 (by omega)
  have := ho.cellAt i (by omega)
  have hl := h.1
  rw [this]
  simp [show i < xs.length by omega, nthb_lt (show i < xs.length by omega)]
theorem RowB.frozen (h : RowB base g v n xs W) (hn : 0 < n) (i : Nat) : W.frozen? ⟨g, i, none⟩ = false := by
  obtain ⟨cap, _, ho⟩ := h.2 hn
  exact ho.frozenAt i
theorem RowB.set (h : RowB base g v n xs W) (i : Nat) (z : Bool) : RowB base g v n (xs.set i z) (W.setCell ⟨g, i, none⟩ (.bool z)) :=
  ⟨by simp [h.1], fun hn => by
    obtain ⟨cap, h1, h2⟩ := h.2 hn
    have := (h2.stored i (.bool z)).1
    rw [show (xs.map Value.bool).set i (.bool z) = (xs.set i z).map Value.bool by simp [List.map_set]] at this
    exact ⟨cap, h1, this⟩⟩
theorem RowB.other (h : RowB base g v n xs W) {p : Addr} (hne : 0 < n → p.block ≠ g) (u : Value) : RowB base g v n xs (W.setCell p u) :=
  h.kept (grownBy_setCell W p u) (fun hn e => hne hn (by simpa using e))
/-- a box of another type is another block -/
theorem RowB.ne_box (h : RowB base g v n xs W) {B : Nat} {t : TypeId} {cs : Array Value} (hB : BoxC W B t cs) (ht : t ≠ 4) : 0 < n → B ≠ g := by
  intro hn e
  subst e
  obtain ⟨cap, _, h2⟩ := h.2 hn
  rcases h2.2 with ⟨h3, _⟩ | ⟨g', cap', cur, h3, _, h5, _⟩
  · cases h3
  · cases h3
    rw [show W.heap[_]? = _ from hB] at h5
    cases h5
    exact ht rfl
theorem RowB.cells (h : RowB base g v n xs W) (hn : 0 < n) : ∃ o : Obj, W.heap[g]? = some o ∧ o.isCells = true := by
  obtain ⟨cap, _, h2⟩ := h.2 hn
  rcases h2.2 with ⟨h3, _⟩ | ⟨g', cap', cur, h3, _, h5, _⟩
  · cases h3
  · cases h3
    exact ⟨_, h5, rfl⟩
end
abbrev rowS (g n : Nat) : Value := .slice (some ⟨g, 0, none⟩) n n
def falses (n : Nat) : List Bool := List.replicate n false
theorem falses_len (n : Nat) : (falses n).length = n := by simp [falses]
theorem nthb_falses (n k : Nat) : nthb (falses n) k = false := by
  unfold nthb falses
  rw [List.getElem?_replicate]
  split <;> rfl
theorem info4 : (Try.prog.info? 4).map (fun i => (i.zero, i.size, i.bytes)) = some (some (.bool false), 1, 1) := by kernel_rfl
theorem rowB_new {base n : Nat} {X : World} (hm : n ≤ 1000) (hb : base ≤ X.heap.size) : RowB base X.heap.size (rowS X.heap.size n) n (falses n) (X.alloc (.cells (madeCells #[.bool false] n) 4)) :=
  ⟨falses_len n, fun _ => ⟨n, rfl, by simp [falses], .inr ⟨X.heap.size, n, _, rfl, hb, World.alloc_heap_new X _, Nat.le_refl _, by unfold maxLen; omega, by simp [size_madeCells], by rw [toList_madeCells_one]; simp [falses]⟩⟩⟩
theorem run_make57 (n : Nat) (hn : n ≤ 1000) (X : World) : (Instr.makeSlice 57 (.int .i64 (n : Int)) (.int .i64 (n : Int))).run Try.prog X = .ok (rowS X.heap.size n) (X.alloc (.cells (madeCells #[.bool false] n) 4)) := by
  obtain ⟨i0, hi, hz0, hz1, hz2⟩ := info_parts info4
  have := run_make (P := Try.prog) X 57 4 i0 (.bool false) Try.underlying57 hi hz0 .i64 .i64 n n (by omega) (by omega) (by rw [hz2]; omega) (by omega)
  rw [hz1] at this
  simpa [Value.cells] using this

theorem NumSl.lenV {K : IntKind} {w : World} {v : Value} {xs : List Int} {n : Nat} (h : NumSl K w v xs) (hl : xs.length = n) : ∃ a cap, v = .slice a n cap := by subst hl; exact h.len
theorem NumSl.atN {K : IntKind} {w : World} {v : Value} {xs : List Int} {n : Nat} (h : NumSl K w v xs) (hl : xs.length = n) {k : Nat} (hk : k < n) : ∃ b off cap, v = .slice (some ⟨b, off, none⟩) n cap ∧ ∀ i, i < n → w.cell? ⟨b, off + i, none⟩ = some (.int K (nth xs i)) := by
  subst hl
  exact h.at hk
/-- us tells which numbers stand at the first k places of ys -/
def SeenTo (ys : List Int) (k : Nat) (us : List Bool) : Prop := ∀ p : Nat, nthb us p = true ↔ ∃ j, j < k ∧ nth ys j = (p : Int)
theorem SeenTo.start (ys : List Int) (n : Nat) : SeenTo ys 0 (falses n) := fun p => by
  rw [nthb_falses]
  exact ⟨fun h => by simp at h, fun ⟨j, h, _⟩ => by omega⟩
theorem SeenTo.next {ys : List Int} {k q : Nat} {us : List Bool} (h : SeenTo ys k us) (hq : q < us.length) (hk : nth ys k = (q : Int)) : SeenTo ys (k + 1) (us.set q true) := fun p => by
  rw [nthb_set hq]
  by_cases hp : p = q
  · subst hp
    rw [if_pos rfl]
    exact ⟨fun _ => ⟨k, by omega, hk⟩, fun _ => rfl⟩
  · rw [if_neg hp, h p]
    constructor
    · rintro ⟨j, h1, h2⟩
      exact ⟨j, by omega, h2⟩
    · rintro ⟨j, h1, h2⟩
      rcases Nat.lt_or_ge j k with h3 | h3
      · exact ⟨j, h3, h2⟩
      · obtain rfl : j = k := by omega
        rw [hk] at h2
        omega
theorem SeenTo.new {f : Int → Int} {ys : List Int} {n k q : Nat} {us : List Bool} (h : SeenTo ys k us) (ho : OutSt f ys n n) (hkn : k < n) (hk : nth ys k = (q : Int)) : nthb us q = false := by
  cases h1 : nthb us q with
  | false => rfl
  | true =>
    obtain ⟨j, h2, h3⟩ := (h q).1 h1
    exact absurd (h3.trans hk.symm) (out_inj ho h2 hkn)
theorem want_zero (T : Tab) (ls : List Rg) : ∀ k, wantTo T ls k = 0 → tabF T = 0 ∧ ∀ j, j < k → fitF T (rgAt ls j).s = 0
  | 0, h => ⟨h, fun j hj => by omega⟩
  | k + 1, h => by
    by_cases h0 : wantTo T ls k = 0
    · obtain ⟨a, b⟩ := want_zero T ls k h0
      have e : wantTo T ls (k + 1) = fitF T (rgAt ls k).s := by simp [wantTo, h0]
      refine ⟨a, fun j hj => ?_⟩
      rcases Nat.lt_or_ge j k with h1 | h1
      · exact b j h1
      · obtain rfl : j = k := by omega
        rw [← e]; exact h
    · have e : wantTo T ls (k + 1) = wantTo T ls k := by simp [wantTo, h0]
      rw [e] at h
      exact absurd h h0
end Go.Proofs.Ytbfldhmpgealpaa
