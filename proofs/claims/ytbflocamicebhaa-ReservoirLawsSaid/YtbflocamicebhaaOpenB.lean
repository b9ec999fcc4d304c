/- What an array of two bytes that comes in reads as. Conditions: none. -/
import Derived.Test.YtbflocamicebhaaOpen
namespace Go.Proofs.Ytbflocamicebhaa
open Go.ChangeShapes Go.WideShapes Go.ChangeAt Go.RowKit Go.Joins Go.Deep

theorem okWide_array {P : Program} {w : World} {r : Reach} {base : Nat} {t : TypeId} {v : Value} {n : Nat} {e : TypeId} (ht : P.underlying t = some (.array n e)) (h : Value.okWide P w r base t v) : ∃ cs, v = .agg cs ∧ cs.size = P.cellsOf t := by
  simp only [Value.okWide, ht] at h
  obtain ⟨cs, h1, h2, _⟩ := h
  exact ⟨cs, h1, h2⟩

theorem open_two {H : Type} {enc : TypeId × Value → H} {w : World} {base : Nat} {spare : Nat → Bool} {held : Bool} {r : Reach} {b0 : Nat} {v : Value} {d : DataW H} {p : List MemPlace}
    (hv : Value.okWide Try.prog w r b0 46 v) (h : DataW.Trod enc Try.prog w base spare held 46 v d p) :
    ∃ z0 z1 : Int, v = .agg #[.int .u8 z0, .int .u8 z1] ∧ (0 ≤ z0 ∧ z0 ≤ 255) ∧ (0 ≤ z1 ∧ z1 ≤ 255) := by
  obtain ⟨cs, rfl, hsz⟩ := okWide_array Try.underlying46 hv
  have hC : Try.prog.cellsOf 46 = 2 := by kernel_rfl
  have hE : Try.prog.cellsOf 5 = 1 := by kernel_rfl
  obtain ⟨l⟩ := cs
  match l, hsz.trans hC with
  | [c0, c1], _ =>
    obtain ⟨fuel, hf⟩ := h
    obtain ⟨xs, m, _, _, _, hlen, hg⟩ := DataW.trod_array Try.underlying46 hf
    rw [hE] at hg
    match xs, hlen with
    | [y0, y1], _ =>
      have h0 := hg 0 (by omega)
      have h1 := hg 1 (by omega)
      simp [Value.cells] at h0 h1
      obtain ⟨a0, e0, -, w0⟩ := DataW.trod_int Try.underlying5 h0
      obtain ⟨a1, e1, -, w1⟩ := DataW.trod_int Try.underlying5 h1
      simp at e0 e1
      subst e0 e1
      exact ⟨a0, a1, rfl, wf_u8 w0, wf_u8 w1⟩
end Go.Proofs.Ytbflocamicebhaa
