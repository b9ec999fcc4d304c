/- What the arguments of this chapter's laws read as. Conditions: none. -/
import Derived.Test.YtoendfpfnfeccaaRows
import Derived.Test.YtoendfpfnfeccaaOpenK
import Derived.Test.YtoendfpfnfeccaaW17
namespace Go.Proofs.Ytoendfpfnfeccaa
open Go.ChangeShapes Go.WideShapes Go.ChangeAt Go.RowKit Go.Joins Go.Deep

theorem own : ownKnob Try.prog.godebug = none := by kernel_rfl
theorem laidOut : laidOutB Try.prog = true := by kernel_rfl
theorem cells3 : Try.prog.cellsOf 3 = 1 := by kernel_rfl
theorem cells24 : Try.prog.cellsOf 24 = 1 := by kernel_rfl
/-- lists that come in -/
structure CsIn (css : List (List Int)) : Prop where
  l : css.length ≤ 9223372036854775807
  r : ∀ k, (nths css k).length ≤ 9223372036854775807

section
variable {H : Type} {enc : TypeId × Value → H} {w : World} {base : Nat} {spare : Nat → Bool} {held : Bool} {r : Reach} {b0 : Nat} {v : Value} {d : DataW H} {p : List MemPlace}
theorem open_ints (hv : Value.okWide Try.prog w r b0 24 v) (h : DataW.Trod enc Try.prog w base spare held 24 v d p) : ∃ xs : List Int, NumSl .i64 w v xs ∧ xs.length ≤ 9223372036854775807 := by
  obtain ⟨a0, len, cap, rfl⟩ := okWide_slice Try.underlying24 hv
  obtain ⟨fuel, hf⟩ := h
  obtain ⟨xs, h1, h2, _⟩ := numSl_of (x := (d, p)) Try.underlying24 Try.underlying3 cells3 (by simpa [Value.cells] using hf)
  exact ⟨xs, h1, h2⟩
theorem open_css (hv : Value.okWide Try.prog w r b0 23 v) (h : DataW.Trod enc Try.prog w base spare held 23 v d p) : ∃ css : List (List Int), SlSl w v css ∧ CsIn css := by
  obtain ⟨a0, len, cap, rfl⟩ := okWide_slice Try.underlying23 hv
  obtain ⟨fuel, hf⟩ := h
  have h' : DataW.trod enc Try.prog w base spare held fuel 23 [.slice a0 len cap] = some (d, p) := by simpa [Value.cells] using hf
  rcases row_of Try.underlying23 cells24 (by omega) h' with ⟨a, cap, e⟩ | ⟨b, off, len, cap, m, e, h0, hm, _, hi⟩
  · exact ⟨[], .inl ⟨⟨a, cap, e⟩, rfl⟩, by simp, by simp [nths]⟩
  · obtain ⟨xss, hl, hx⟩ := list_of ([] : List Int) (R := fun i xs => (∃ u, w.cell? ⟨b, off + i, none⟩ = some u ∧ NumSl .i64 w u xs) ∧ xs.length ≤ 9223372036854775807) len (fun i hil => by
      obtain ⟨cs, y, hcl, hc, ht'⟩ := hi i hil
      match cs, hcl with
      | [u], _ =>
        obtain ⟨xs, h1, h2, _⟩ := numSl_of Try.underlying24 Try.underlying3 cells3 ht'
        have := hc 0 (by omega)
        exact ⟨xs, ⟨u, by simpa using this, h1⟩, h2⟩)
    subst hl
    refine ⟨xss, .inr ⟨b, off, cap, e, ?_, fun i hi => (hx i hi).1⟩, hm, fun k => ?_⟩
    · obtain ⟨u, hu, _⟩ := (hx 0 h0).1
      exact lt_of_cell hu
    · rcases Nat.lt_or_ge k xss.length with hk | hk
      · exact (hx k hk).2
      · simp [nths, hk]
theorem open_slip (hv : Value.okWide Try.prog w r b0 55 v) (h : DataW.Trod enc Try.prog w base spare held 55 v d p) : ∃ a b c : Int, v = .agg #[.int .i64 a, .int .i64 b, .int .i64 c] := by
  obtain ⟨v0, v1, v2, y0, y1, y2, n, rfl, -, -, h0, h1, h2⟩ := open_agg3 Try.underlying55 (by kernel_rfl) (by kernel_rfl) hv h
  obtain ⟨a0, e0, -, w0⟩ := DataW.trod_int Try.underlying3 h0
  obtain ⟨a1, e1, -, w1⟩ := DataW.trod_int Try.underlying3 h1
  obtain ⟨a2, e2, -, w2⟩ := DataW.trod_int Try.underlying3 h2
  simp at e0 e1 e2
  subst e0 e1 e2
  exact ⟨a0, a1, a2, rfl⟩
end
end Go.Proofs.Ytoendfpfnfeccaa
