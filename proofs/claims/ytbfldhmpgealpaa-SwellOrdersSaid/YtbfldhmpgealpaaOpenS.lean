/- What the arguments of chapter 23's laws read as: tremulants, boxes, movements, tables, registrations. Conditions: none. -/
import Derived.Test.YtbfldhmpgealpaaW10
import Derived.Test.YtbfldhmpgealpaaW4
import Derived.Test.YtbfldhmpgealpaaOpen
namespace Go.Proofs.Ytbfldhmpgealpaa
open Go.ChangeShapes Go.WideShapes Go.ChangeAt Go.RowKit Go.Joins Go.Deep

theorem own : ownKnob Try.prog.godebug = none := by kernel_rfl
theorem laidOut : laidOutB Try.prog = true := by kernel_rfl
theorem cells3 : Try.prog.cellsOf 3 = 1 := by kernel_rfl
theorem cells40 : Try.prog.cellsOf 40 = 1 := by kernel_rfl
theorem cells37 : Try.prog.cellsOf 37 = 1 := by kernel_rfl
theorem cells49 : Try.prog.cellsOf 49 = 1 := by kernel_rfl
theorem cells64 : Try.prog.cellsOf 64 = 3 := by kernel_rfl

section
variable {H : Type} {enc : TypeId × Value → H} {w : World} {base : Nat} {spare : Nat → Bool} {held : Bool} {r : Reach} {b0 : Nat} {v : Value} {d : DataW H} {p : List MemPlace}

theorem open_trem (hv : Value.okWide Try.prog w r b0 23 v) (h : DataW.Trod enc Try.prog w base spare held 23 v d p) : ∃ a b c : Int, v = .agg #[.int .i64 a, .int .i64 b, .int .i64 c] := by
  obtain ⟨v0, v1, v2, y0, y1, y2, n, rfl, -, -, h0, h1, h2⟩ := open_agg3 Try.underlying23 (by kernel_rfl) (by kernel_rfl) hv h
  obtain ⟨a0, e0, -, w0⟩ := DataW.trod_int Try.underlying3 h0
  obtain ⟨a1, e1, -, w1⟩ := DataW.trod_int Try.underlying3 h1
  obtain ⟨a2, e2, -, w2⟩ := DataW.trod_int Try.underlying3 h2
  simp at e0 e1 e2
  subst e0 e1 e2
  exact ⟨a0, a1, a2, rfl⟩

theorem open_nums (hv : Value.okWide Try.prog w r b0 40 v) (h : DataW.Trod enc Try.prog w base spare held 40 v d p) : ∃ xs : List Int, NumSl .i64 w v xs ∧ xs.length ≤ 9223372036854775807 ∧ ∀ i, i < xs.length → (Lit.int .i64 (nth xs i)).wf = true := by
  obtain ⟨a0, len, cap, rfl⟩ := okWide_slice Try.underlying40 hv
  obtain ⟨fuel, hf⟩ := h
  exact numSl_of (x := (d, p)) Try.underlying40 Try.underlying3 cells3 (by simpa [Value.cells] using hf)

theorem open_box (hv : Value.okWide Try.prog w r b0 49 v) (h : DataW.Trod enc Try.prog w base spare held 49 v d p) : ∃ u xs, v = .agg #[u] ∧ NumSl .i64 w u xs ∧ xs.length ≤ 9223372036854775807 := by
  obtain ⟨u, y, n, rfl, h0⟩ := open_agg1 Try.underlying49 (by kernel_rfl) (by kernel_rfl) hv h
  obtain ⟨xs, h1, h2, _⟩ := numSl_of Try.underlying40 Try.underlying3 cells3 h0
  exact ⟨u, xs, rfl, h1, h2⟩

/-- a list of movements -/
theorem mvSl_of {fuel : Nat} {x : DataW H × List MemPlace} (h : DataW.trod enc Try.prog w base spare held fuel 59 [v] = some x) : ∃ l : List Mv, MvSl w v l ∧ l.length ≤ 9223372036854775807 := by
  rcases row_of Try.underlying59 cells64 (by omega) h with ⟨a, cap, rfl⟩ | ⟨b, off, len, cap, m, rfl, h0, hm, hcap, hi⟩
  · exact ⟨[], .inl ⟨⟨a, cap, rfl⟩, rfl⟩, by simp⟩
  · obtain ⟨l, hl, hx⟩ := list_of (⟨0, 0, 0⟩ : Mv) (R := fun i n => w.cell? ⟨b, off + i * 3, none⟩ = some (.int .i64 n.t) ∧ w.cell? ⟨b, off + i * 3 + 1, none⟩ = some (.int .i64 n.s) ∧ w.cell? ⟨b, off + i * 3 + 2, none⟩ = some (.int .i64 n.p)) len (fun i hil => by
      obtain ⟨cs, y, hcl, hc, ht'⟩ := hi i hil
      match cs, hcl with
      | [c0, c1, c2], hcl =>
        obtain ⟨k, hf⟩ := fields_of Try.underlying64 (by kernel_rfl) ht' (by rw [hcl]; rfl)
        obtain ⟨_, g0⟩ := hf 0 _ c0 rfl rfl
        obtain ⟨_, g1⟩ := hf 1 _ c1 rfl rfl
        obtain ⟨_, g2⟩ := hf 2 _ c2 rfl rfl
        obtain ⟨a0, e0, -, w0⟩ := DataW.trod_int Try.underlying3 g0
        obtain ⟨a1, e1, -, w1⟩ := DataW.trod_int Try.underlying3 g1
        obtain ⟨a2, e2, -, w2⟩ := DataW.trod_int Try.underlying3 g2
        simp at e0 e1 e2
        subst e0 e1 e2
        exact ⟨⟨a0, a1, a2⟩, by simpa using hc 0 (by omega), by simpa using hc 1 (by omega), by simpa using hc 2 (by omega)⟩)
    subst hl
    exact ⟨l, .inr ⟨b, off, cap, rfl, fun i hi => hx i hi, hcap⟩, hm⟩
theorem open_moves (hv : Value.okWide Try.prog w r b0 59 v) (h : DataW.Trod enc Try.prog w base spare held 59 v d p) : ∃ l : List Mv, MvSl w v l ∧ l.length ≤ 9223372036854775807 := by
  obtain ⟨a0, len, cap, rfl⟩ := okWide_slice Try.underlying59 hv
  obtain ⟨fuel, hf⟩ := h
  exact mvSl_of (x := (d, p)) (by simpa [Value.cells] using hf)

/-- a list of lists of ints, of either type -/
theorem slSl_of {t e : TypeId} {fuel : Nat} {x : DataW H × List MemPlace} (ht : Try.prog.underlying t = some (.slice e)) (hC : Try.prog.cellsOf e = 1)
    (he : ∀ m cs y, cs.length = 1 → DataW.trod enc Try.prog w base spare held m e cs = some y → ∃ u n z, cs = [u] ∧ DataW.trod enc Try.prog w base spare held n 40 [u] = some z)
    (h : DataW.trod enc Try.prog w base spare held fuel t [v] = some x) : ∃ xss : List (List Int), SlSl w v xss ∧ xss.length ≤ 9223372036854775807 ∧ ∀ k, (nths xss k).length ≤ 9223372036854775807 := by
  rcases row_of ht hC (by omega) h with ⟨a, cap, rfl⟩ | ⟨b, off, len, cap, m, rfl, h0, hm, _, hi⟩
  · exact ⟨[], .inl ⟨⟨a, cap, rfl⟩, rfl⟩, by simp, by simp [nths]⟩
  · obtain ⟨xss, hl, hx⟩ := list_of ([] : List Int) (R := fun i xs => (∃ u, w.cell? ⟨b, off + i, none⟩ = some u ∧ NumSl .i64 w u xs) ∧ xs.length ≤ 9223372036854775807) len (fun i hil => by
      obtain ⟨cs, y, hcl, hc, ht'⟩ := hi i hil
      obtain ⟨u, n, z, rfl, hu⟩ := he _ _ _ hcl ht'
      obtain ⟨xs, h1, h2, _⟩ := numSl_of Try.underlying40 Try.underlying3 cells3 hu
      have := hc 0 (by omega)
      exact ⟨xs, ⟨u, by simpa using this, h1⟩, h2⟩)
    subst hl
    refine ⟨xss, .inr ⟨b, off, cap, rfl, fun i hi => (hx i hi).1⟩, hm, fun k => ?_⟩
    rcases Nat.lt_or_ge k xss.length with hk | hk
    · exact (hx k hk).2
    · simp [nths, hk]
theorem lists_of {fuel : Nat} {x : DataW H × List MemPlace} (h : DataW.trod enc Try.prog w base spare held fuel 32 [v] = some x) : ∃ xss : List (List Int), SlSl w v xss ∧ xss.length ≤ 9223372036854775807 ∧ ∀ k, (nths xss k).length ≤ 9223372036854775807 :=
  slSl_of Try.underlying32 cells40 (fun m cs y hl ht => by
    match cs, hl with
    | [u], _ => exact ⟨u, _, _, rfl, ht⟩) h
theorem boxes_of {fuel : Nat} {x : DataW H × List MemPlace} (h : DataW.trod enc Try.prog w base spare held fuel 33 [v] = some x) : ∃ xss : List (List Int), SlSl w v xss ∧ xss.length ≤ 9223372036854775807 ∧ ∀ k, (nths xss k).length ≤ 9223372036854775807 :=
  slSl_of Try.underlying33 cells49 (fun m cs y hl ht => by
    match cs, hl with
    | [u], hl =>
      obtain ⟨k, hf⟩ := fields_of Try.underlying49 (by kernel_rfl) ht (by rw [hl]; rfl)
      obtain ⟨z, g0⟩ := hf 0 _ u rfl rfl
      exact ⟨u, _, _, rfl, g0⟩) h

theorem open_table (hv : Value.okWide Try.prog w r b0 35 v) (h : DataW.Trod enc Try.prog w base spare held 35 v d p) :
    ∃ (a b : Value) (T : Tab), v = tabV a b ∧ SlSl w a T.s ∧ SlSl w b T.b ∧ (T.s.length ≤ 9223372036854775807 ∧ ∀ k, (nths T.s k).length ≤ 9223372036854775807) ∧ (T.b.length ≤ 9223372036854775807 ∧ ∀ k, (nths T.b k).length ≤ 9223372036854775807) := by
  obtain ⟨v0, v1, y0, y1, n, rfl, -, -, h0, h1⟩ := open_agg2 Try.underlying35 (by kernel_rfl) (by kernel_rfl) hv h
  obtain ⟨ss, g1, g2, g3⟩ := lists_of h0
  obtain ⟨bs, k1, k2, k3⟩ := boxes_of h1
  exact ⟨v0, v1, ⟨ss, bs⟩, rfl, g1, k1, ⟨g2, g3⟩, ⟨k2, k3⟩⟩

theorem open_reg (hv : Value.okWide Try.prog w r b0 39 v) (h : DataW.Trod enc Try.prog w base spare held 39 v d p) :
    ∃ a c o rs, v = regV a c o ∧ NumSl .u64 w a rs ∧ rs.length ≤ 9223372036854775807 ∧ ∀ i, i < rs.length → (Lit.int .u64 (nth rs i)).wf = true := by
  obtain ⟨v0, v1, v2, y0, y1, y2, n, rfl, -, -, h0, h1, h2⟩ := open_agg3 Try.underlying39 (by kernel_rfl) (by kernel_rfl) hv h
  obtain ⟨rs, g1, g2, g3⟩ := numSl_of Try.underlying36 Try.underlying37 cells37 h0
  obtain ⟨a1, e1, -, w1⟩ := DataW.trod_int Try.underlying37 h1
  obtain ⟨a2, e2, -, w2⟩ := DataW.trod_int Try.underlying37 h2
  simp at e1 e2
  subst e1 e2
  exact ⟨v0, a1, a2, rs, rfl, g1, g2, g3⟩
end
theorem nth_u64 {rs : List Int} (h : ∀ i, i < rs.length → (Lit.int .u64 (nth rs i)).wf = true) (i : Nat) : 0 ≤ nth rs i ∧ nth rs i ≤ 18446744073709551615 := by
  rcases Nat.lt_or_ge i rs.length with h1 | h1
  · exact wf_u64 (h i h1)
  · have : nth rs i = 0 := by simp [nth, h1]
    omega
end Go.Proofs.Ytbfldhmpgealpaa
