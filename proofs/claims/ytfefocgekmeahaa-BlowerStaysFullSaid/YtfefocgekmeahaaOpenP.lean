/- What the arguments of chapter 35's laws read as: plants, demands, lists of demands, states. Conditions: none. -/
import Derived.Test.YtfefocgekmeahaaRows
import Derived.Test.YtfefocgekmeahaaW20
import Derived.Test.YtfefocgekmeahaaOpenK
namespace Go.Proofs.Ytfefocgekmeahaa
open Go.ChangeShapes Go.WideShapes Go.ChangeAt Go.RowKit Go.Joins Go.Deep

theorem own : ownKnob Try.prog.godebug = none := by kernel_rfl
theorem laidOut : laidOutB Try.prog = true := by kernel_rfl
theorem cells3 : Try.prog.cellsOf 3 = 1 := by kernel_rfl
theorem cells39 : Try.prog.cellsOf 39 = 1 := by kernel_rfl
theorem cells42 : Try.prog.cellsOf 42 = 4 := by kernel_rfl

section
variable {H : Type} {enc : TypeId × Value → H} {w : World} {base : Nat} {spare : Nat → Bool} {held : Bool} {r : Reach} {b0 : Nat} {v : Value} {d : DataW H} {p : List MemPlace}

/-- a list of nodes -/
theorem ndSl_of {fuel : Nat} {x : DataW H × List MemPlace} (h : DataW.trod enc Try.prog w base spare held fuel 22 [v] = some x) : ∃ l : List Nd, NdSl w v l ∧ l.length ≤ 9223372036854775807 := by
  rcases row_of Try.underlying22 cells42 (by omega) h with ⟨a, cap, rfl⟩ | ⟨b, off, len, cap, m, rfl, h0, hm, hcap, hi⟩
  · exact ⟨[], .inl ⟨⟨a, cap, rfl⟩, rfl⟩, by simp⟩
  · obtain ⟨l, hl, hx⟩ := list_of (⟨0, 0, 0, 0⟩ : Nd) (R := fun i n => w.cell? ⟨b, off + i * 4, none⟩ = some (.int .i64 n.p) ∧ w.cell? ⟨b, off + i * 4 + 1, none⟩ = some (.int .i64 n.m) ∧ w.cell? ⟨b, off + i * 4 + 2, none⟩ = some (.int .i64 n.c) ∧ w.cell? ⟨b, off + i * 4 + 3, none⟩ = some (.int .i64 n.l)) len (fun i hil => by
      obtain ⟨cs, y, hcl, hc, ht'⟩ := hi i hil
      match cs, hcl with
      | [c0, c1, c2, c3], hcl =>
        obtain ⟨k, hf⟩ := fields_of Try.underlying42 (by kernel_rfl) ht' (by rw [hcl]; rfl)
        obtain ⟨_, g0⟩ := hf 0 _ c0 rfl rfl
        obtain ⟨_, g1⟩ := hf 1 _ c1 rfl rfl
        obtain ⟨_, g2⟩ := hf 2 _ c2 rfl rfl
        obtain ⟨_, g3⟩ := hf 3 _ c3 rfl rfl
        obtain ⟨a0, e0, -, w0⟩ := DataW.trod_int Try.underlying3 g0
        obtain ⟨a1, e1, -, w1⟩ := DataW.trod_int Try.underlying3 g1
        obtain ⟨a2, e2, -, w2⟩ := DataW.trod_int Try.underlying3 g2
        obtain ⟨a3, e3, -, w3⟩ := DataW.trod_int Try.underlying3 g3
        simp at e0 e1 e2 e3
        subst e0 e1 e2 e3
        exact ⟨⟨a0, a1, a2, a3⟩, by simpa using hc 0 (by omega), by simpa using hc 1 (by omega), by simpa using hc 2 (by omega), by simpa using hc 3 (by omega)⟩)
    subst hl
    exact ⟨l, .inr ⟨b, off, cap, rfl, fun i hi => hx i hi⟩, hm⟩
theorem open_plant (hv : Value.okWide Try.prog w r b0 24 v) (h : DataW.Trod enc Try.prog w base spare held 24 v d p) :
    ∃ (sup : Int) (u : Value) (ns : List Nd), v = plV sup u ∧ NdSl w u ns ∧ ns.length ≤ 9223372036854775807 := by
  obtain ⟨v0, v1, y0, y1, n, rfl, -, -, h0, h1⟩ := open_agg2 Try.underlying24 (by kernel_rfl) (by kernel_rfl) hv h
  obtain ⟨a0, e0, -, w0⟩ := DataW.trod_int Try.underlying3 h0
  simp at e0
  subst e0
  obtain ⟨ns, g1, g2⟩ := ndSl_of h1
  exact ⟨a0, v1, ns, rfl, g1, g2⟩
theorem open_dem (hv : Value.okWide Try.prog w r b0 39 v) (h : DataW.Trod enc Try.prog w base spare held 39 v d p) : ∃ xs : List Int, NumSl .i64 w v xs ∧ xs.length ≤ 9223372036854775807 := by
  obtain ⟨a0, len, cap, rfl⟩ := okWide_slice Try.underlying39 hv
  obtain ⟨fuel, hf⟩ := h
  obtain ⟨xs, h1, h2, _⟩ := numSl_of (x := (d, p)) Try.underlying39 Try.underlying3 cells3 (by simpa [Value.cells] using hf)
  exact ⟨xs, h1, h2⟩
theorem open_dss (hv : Value.okWide Try.prog w r b0 25 v) (h : DataW.Trod enc Try.prog w base spare held 25 v d p) : ∃ xss : List (List Int), SlSl w v xss ∧ xss.length ≤ 9223372036854775807 ∧ ∀ k, (nths xss k).length ≤ 9223372036854775807 := by
  obtain ⟨a0, len, cap, rfl⟩ := okWide_slice Try.underlying25 hv
  obtain ⟨fuel, hf⟩ := h
  have h' : DataW.trod enc Try.prog w base spare held fuel 25 [.slice a0 len cap] = some (d, p) := by simpa [Value.cells] using hf
  rcases row_of Try.underlying25 cells39 (by omega) h' with ⟨a, cap, e⟩ | ⟨b, off, len, cap, m, e, h0, hm, _, hi⟩
  · exact ⟨[], .inl ⟨⟨a, cap, e⟩, rfl⟩, by simp, by simp [nths]⟩
  · obtain ⟨xss, hl, hx⟩ := list_of ([] : List Int) (R := fun i xs => (∃ u, w.cell? ⟨b, off + i, none⟩ = some u ∧ NumSl .i64 w u xs) ∧ xs.length ≤ 9223372036854775807) len (fun i hil => by
      obtain ⟨cs, y, hcl, hc, ht'⟩ := hi i hil
      match cs, hcl with
      | [u], _ =>
        obtain ⟨xs, h1, h2, _⟩ := numSl_of Try.underlying39 Try.underlying3 cells3 ht'
        have := hc 0 (by omega)
        exact ⟨xs, ⟨u, by simpa using this, h1⟩, h2⟩)
    subst hl
    refine ⟨xss, .inr ⟨b, off, cap, e, ?_, fun i hi => (hx i hi).1⟩, hm, fun k => ?_⟩
    · obtain ⟨u, hu, _⟩ := (hx 0 h0).1
      exact lt_of_cell hu
    · rcases Nat.lt_or_ge k xss.length with hk | hk
      · exact (hx k hk).2
      · simp [nths, hk]
theorem open_state (hv : Value.okWide Try.prog w r b0 44 v) (h : DataW.Trod enc Try.prog w base spare held 44 v d p) :
    ∃ (u1 u2 u3 : Value) (s : St), v = stV u1 u2 u3 ∧ StSl w u1 u2 u3 s ∧ s.lv.length ≤ 9223372036854775807 := by
  obtain ⟨v0, v1, v2, y0, y1, y2, n, rfl, -, -, h0, h1, h2⟩ := open_agg3 Try.underlying44 (by kernel_rfl) (by kernel_rfl) hv h
  obtain ⟨x0, g0, k0, _⟩ := numSl_of Try.underlying39 Try.underlying3 cells3 h0
  obtain ⟨x1, g1, _, _⟩ := numSl_of Try.underlying39 Try.underlying3 cells3 h1
  obtain ⟨x2, g2, _, _⟩ := numSl_of Try.underlying39 Try.underlying3 cells3 h2
  exact ⟨v0, v1, v2, ⟨x0, x1, x2⟩, rfl, ⟨g0, g1, g2⟩, k0⟩
end
end Go.Proofs.Ytfefocgekmeahaa
