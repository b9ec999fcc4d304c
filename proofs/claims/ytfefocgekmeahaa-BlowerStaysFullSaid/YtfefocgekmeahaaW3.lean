/- The contracts of slices.Clone, and of give: the children of a node take what is left. Conditions: at most 30 nodes. -/
import Derived.Test.YtfefocgekmeahaaW2
import Derived.Deep.AppendLies
import Derived.Laws.OwnMore
import Derived.Lib.SliceRun
namespace Go.Proofs.Ytfefocgekmeahaa
open Go.RowKit Go.Shelf

theorem info3 : (Try.prog.info? 3).map (fun i => (i.zero, i.size, i.bytes)) = some (some (.int .i64 0), 1, 8) := by kernel_rfl

/-- v is a slice of the n numbers xs; they lie in the row g, if there are any -/
def RowG (base g : Nat) (v : Value) (n : Nat) (xs : List Int) (W : World) : Prop :=
  xs.length = n ∧ (0 < n → ∃ cap, v = .slice (some ⟨g, 0, none⟩) n cap ∧ W.ownsRow base 3 1 (.slice (some ⟨g, 0, none⟩) n cap) n (xs.map (Value.int .i64)))
section
variable {base g n : Nat} {v : Value} {xs : List Int} {W W' : World}
theorem RowG.lt (h : RowG base g v n xs W) (hn : 0 < n) : base ≤ g ∧ g < W.heap.size := by
  obtain ⟨cap, _, ho⟩ := h.2 hn
  exact ho.lt g rfl
theorem RowG.kept {row : Option Nat} (h : RowG base g v n xs W) (hg : W.grownBy W' row) (hne : 0 < n → row ≠ some g) : RowG base g v n xs W' :=
  ⟨h.1, fun hn => by obtain ⟨cap, h1, h2⟩ := h.2 hn; exact ⟨cap, h1, h2.kept hg (.inr (fun e => hne hn (by rw [← e]; rfl)))⟩⟩
theorem RowG.grown (h : RowG base g v n xs W) (hb : Below W.heap.size W W') : RowG base g v n xs W' := h.kept (below_grown hb) (fun _ => by simp)
theorem RowG.drew (h : RowG base g v n xs W) : RowG base g v n xs W.drew := h
theorem RowG.cell (h : RowG base g v n xs W) {i : Nat} (hi : i < n) : W.cell? ⟨g, i, none⟩ = some (.int .i64 (nth xs i)) := by
  obtain ⟨cap, _, ho⟩ := h.2 (by omega)
  have := ho.cellAt i (by omega)
  have hl := h.1
  rw [this]
  simp [show i < xs.length by omega, nth_lt (show i < xs.length by omega)]
theorem RowG.frozen (h : RowG base g v n xs W) (hn : 0 < n) (i : Nat) : W.frozen? ⟨g, i, none⟩ = false := by
  obtain ⟨cap, _, ho⟩ := h.2 hn
  exact ho.frozenAt i
theorem RowG.set (h : RowG base g v n xs W) (i : Nat) (z : Int) : RowG base g v n (xs.set i z) (W.setCell ⟨g, i, none⟩ (.int .i64 z)) :=
  ⟨by simp [h.1], fun hn => by
    obtain ⟨cap, h1, h2⟩ := h.2 hn
    have := (h2.stored i (.int .i64 z)).1
    rw [show (xs.map (Value.int .i64)).set i (.int .i64 z) = (xs.set i z).map (Value.int .i64) by simp [List.map_set]] at this
    exact ⟨cap, h1, this⟩⟩
theorem RowG.other (h : RowG base g v n xs W) {p : Addr} (hne : 0 < n → p.block ≠ g) (u : Value) : RowG base g v n xs (W.setCell p u) :=
  h.kept (grownBy_setCell W p u) (fun hn e => hne hn (by simpa using e))
theorem RowG.num (h : RowG base g v n xs W) (hv : ∃ a c, v = .slice a n c) : NumSl .i64 W v xs := by
  rcases Nat.eq_zero_or_pos n with h0 | h0
  · subst h0
    obtain ⟨a, c, rfl⟩ := hv
    exact .inl ⟨⟨a, c, rfl⟩, List.eq_nil_of_length_eq_zero h.1⟩
  · obtain ⟨cap, h1, _⟩ := h.2 h0
    have hl := h.1
    subst hl
    exact .inr ⟨g, 0, cap, h1, fun i hi => by rw [Nat.zero_add]; exact h.cell hi⟩
/-- a box of another type is another block -/
theorem RowG.ne_box (h : RowG base g v n xs W) {B : Nat} {t : TypeId} {cs : Array Value} (hB : BoxC W B t cs) (ht : t ≠ 3) : 0 < n → B ≠ g := by
  intro hn e
  subst e
  obtain ⟨cap, _, h2⟩ := h.2 hn
  rcases h2.2 with ⟨h3, _⟩ | ⟨g', cap', cur, h3, _, h5, _⟩
  · cases h3
  · cases h3
    rw [show W.heap[_]? = _ from hB] at h5
    cases h5
    exact ht rfl
theorem RowG.cells (h : RowG base g v n xs W) (hn : 0 < n) : ∃ o : Obj, W.heap[g]? = some o ∧ o.isCells = true := by
  obtain ⟨cap, _, h2⟩ := h.2 hn
  rcases h2.2 with ⟨h3, _⟩ | ⟨g', cap', cur, h3, _, h5, _⟩
  · cases h3
  · cases h3
    exact ⟨_, h5, rfl⟩
end
theorem rowG_own {β : Type} (B base g n : Nat) (v : Value) (f : β → List Int) : OwnFrom B (fun s W => RowG base g v n (f s) W) := fun s X Y row hs hg hr =>
  hs.kept hg (fun hn e => by
    obtain ⟨o, ho, hc⟩ := (hr g e).2
    obtain ⟨o', ho', hc'⟩ := hs.cells hn
    rw [ho] at ho'
    cases ho'
    rw [hc] at hc'
    cases hc')
theorem grownBy_own {β : Type} {B : Nat} {w : World} {row : Option Nat} (hB : w.heap.size ≤ B) : OwnFrom B (fun (_ : β) W => w.grownBy W row) := fun _ X Y r hs hg hr =>
  ⟨hg.os.trans hs.os, hg.tape.trans hs.tape, hg.output.trans hs.output, Nat.le_trans hs.size hg.size, fun k hk hne =>
    (hg.block k (Nat.lt_of_lt_of_le hk hs.size) (fun e => by have := (hr k e.symm).1; omega)).trans (hs.block k hk hne)⟩

/-- an empty row that was just made -/
theorem own_empty (w : World) (e : TypeId) : (w.alloc (.cells #[] e)).ownsRow w.heap.size e 1 (.slice (some ⟨w.heap.size, 0, none⟩) 0 0) 0 [] :=
  ⟨rfl, .inr ⟨w.heap.size, 0, #[], rfl, Nat.le_refl _, World.alloc_heap_new w _, by omega, by unfold maxLen; omega, rfl, rfl⟩⟩
theorem news_of {K : IntKind} {w : World} {b off cap : Nat} {xs : List Int} (h : NumSl K w (.slice (some ⟨b, off, none⟩) xs.length cap) xs) : ∀ (j : Nat) (u : Value), (xs.map (Value.int K))[j]? = some u → w.cell? ((⟨b, off, none⟩ : Addr).add j) = some u := by
  intro j u hu
  rw [WideShapes.add_plain]
  have hj : j < xs.length := by
    rcases Nat.lt_or_ge j xs.length with h1 | h1
    · exact h1
    · simp [h1] at hu
  obtain ⟨b', off', cap', he, hc⟩ := h.at hj
  cases he
  rw [hc j hj]
  simp [hj] at hu
  rw [← hu, nth_lt hj]
/-- behind a copy of a list: a slice of its own -/
def ClonePost (d : List Int) (w : World) (e : Ending) (w' : World) : Prop :=
  ∃ g a c, e = .returned (.slice a d.length c) ∧ w.heap.size ≤ g ∧ RowG w.heap.size g (.slice a d.length c) d.length d w' ∧ Below w.heap.size w w'
set_option maxHeartbeats 1000000 in
theorem clone_any (u : Value) (d : List Int) (w : World) (hu : NumSl .i64 w u d) (hd : d.length ≤ 1000) : Calls Try.prog 54 #[u] w (ClonePost d w) := by
  have hA := (Below.refl w.heap.size w).alloc (Nat.le_refl _) (.cells #[] 3)
  obtain ⟨i0, hi, hz0, hz1, hz2⟩ := info_parts info3
  rcases Nat.eq_zero_or_pos d.length with h0 | h0
  · obtain ⟨a, c, rfl⟩ := hu.len
    have hd0 : d = [] := List.eq_nil_of_length_eq_zero h0
    subst hd0
    clear hu hd h0
    simp only [List.length_nil]
    cases a with
    | none =>
      have hq : ∀ w, (binOp .eql 39 (.slice none 0 c) (.slice none 0 0)).run Try.prog w = .ok (.bool true) w := fun w => Lib.run_eql_slice_nil w 39 3 _ _ _ 0 0 Try.underlying39
      go_enter Try.func54, Try.ntmps54
      go_wp2
      go_ret
      exact ⟨w.heap.size, none, 0, rfl, Nat.le_refl _, ⟨rfl, fun h => absurd h (by decide)⟩, Below.refl _ _⟩
    | some ad =>
      have hq : ∀ w, (binOp .eql 39 (.slice (some ad) 0 c) (.slice none 0 0)).run Try.prog w = .ok (.bool false) w := fun w => Lib.run_eql_slice_nil w 39 3 _ _ _ 0 0 Try.underlying39
      go_enter Try.func54, Try.ntmps54
      go_wp2_with (at_builtin; refine wpList_append_fits_any _ rfl _ _ 39 rfl w.heap.size 3 i0 1 Try.underlying39 hi hz1 w.heap.size 0 0 [] rfl (own_empty _ _) (some ad) 0 c [] rfl (by simp) (by simp) (by simp) (by simp) (by simp) ?_; intro w1 hown1 hgrow; simp only [Nat.add_zero, List.nil_append] at hown1)
      have hbq := hA.grown hgrow (by simp) (fun k e => by cases e; exact Nat.le_refl _)
      go_wp2
      go_ret
      exact ⟨w.heap.size, some ⟨w.heap.size, 0, none⟩, 0, rfl, Nat.le_refl _, ⟨rfl, fun h => absurd h (by decide)⟩, hbq⟩
  · obtain ⟨b, off, cap, rfl, hc⟩ := hu.at h0
    have hnews := news_of (hu.mono hA)
    clear hc
    have hq : ∀ w, (binOp .eql 39 (.slice (some ⟨b, off, none⟩) d.length cap) (.slice none 0 0)).run Try.prog w = .ok (.bool false) w := fun w => Lib.run_eql_slice_nil w 39 3 _ _ _ 0 0 Try.underlying39
    go_enter Try.func54, Try.ntmps54
    go_wp2_with (at_builtin; refine wpList_append_lies _ rfl _ _ 39 rfl w.heap.size 3 i0 _ 1 8 Try.underlying39 hi hz0 hz1 hz2 rfl (by omega) _ 0 [] rfl (own_empty _ _) ⟨b, off, none⟩ d.length cap (d.map (Value.int .i64)) rfl (by simp) hnews (ints_oneCell _ _) h0 (by unfold maxLen; omega) (by omega) (by simp) (w.heap.size + 1) (by simp) ?_; intro g cp w1 hown1 hgrow hat hlt1; simp only [Nat.zero_add, List.nil_append] at hown1)
    have hbq := hA.grown hgrow (by simp) (fun k e => by cases e; exact Nat.le_refl _)
    have hg1 : w.heap.size ≤ g := ownsRow_low hown1 g rfl
    go_wp2
    go_ret
    exact ⟨g, some ⟨g, 0, none⟩, cp, rfl, hg1, ⟨rfl, fun _ => ⟨cp, rfl, hown1⟩⟩, hbq⟩
end Go.Proofs.Ytfefocgekmeahaa
