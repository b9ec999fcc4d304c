/- What a reservoir and a list of ints that come in read as. Conditions: none. -/
import Derived.Test.YtbflocamicebhaaOpen
namespace Go.Proofs.Ytbflocamicebhaa
open Go.ChangeShapes Go.WideShapes Go.ChangeAt Go.RowKit Go.Joins Go.Deep

theorem open_agg4 {H : Type} {enc : TypeId × Value → H} {P : Program} {w : World} {base : Nat} {spare : Nat → Bool} {held : Bool} {r : Reach} {b0 : Nat} {t : TypeId} {f0 f1 f2 f3 : Field} {v : Value} {d : DataW H} {p : List MemPlace} (hs : P.underlying t = some (.struct #[f0, f1, f2, f3])) (hone : oneCellFields P #[f0, f1, f2, f3] = true) (hC : P.cellsOf t = 4)
    (hv : Value.okWide P w r b0 t v) (h : DataW.Trod enc P w base spare held t v d p) :
    ∃ (v0 v1 v2 v3 : Value) (y0 y1 y2 y3 : DataW H × List MemPlace) (n : Nat), v = .agg #[v0, v1, v2, v3] ∧
      DataW.trod enc P w base spare held n f0.type [v0] = some y0 ∧ DataW.trod enc P w base spare held n f1.type [v1] = some y1 ∧ DataW.trod enc P w base spare held n f2.type [v2] = some y2 ∧ DataW.trod enc P w base spare held n f3.type [v3] = some y3 := by
  obtain ⟨cs, rfl, hsz⟩ := okWide_struct hs hv
  obtain ⟨l⟩ := cs
  match l, hsz.trans hC with
  | [c0, c1, c2, c3], _ =>
    obtain ⟨fuel, hf⟩ := h
    obtain ⟨xs, n, _, _, _, hlen, hg⟩ := DataW.trod_struct hs hf
    obtain ⟨o0, k0⟩ := hone_of hone 0 f0 rfl
    obtain ⟨o1, k1⟩ := hone_of hone 1 f1 rfl
    obtain ⟨o2, k2⟩ := hone_of hone 2 f2 rfl
    obtain ⟨o3, k3⟩ := hone_of hone 3 f3 rfl
    match xs, hlen with
    | [y0, y1, y2, y3], _ =>
      exact ⟨c0, c1, c2, c3, y0, y1, y2, y3, n, rfl, by simpa [Value.cells, o0, k0] using hg 0 f0 rfl, by simpa [Value.cells, o1, k1] using hg 1 f1 rfl, by simpa [Value.cells, o2, k2] using hg 2 f2 rfl, by simpa [Value.cells, o3, k3] using hg 3 f3 rfl⟩

theorem open_res {H : Type} {enc : TypeId × Value → H} {w : World} {base : Nat} {spare : Nat → Bool} {held : Bool} {r : Reach} {b0 : Nat} {v : Value} {d : DataW H} {p : List MemPlace}
    (hv : Value.okWide Try.prog w r b0 28 v) (h : DataW.Trod enc Try.prog w base spare held 28 v d p) :
    ∃ c l s q : Int, v = .agg #[.int .i64 c, .int .i64 l, .int .i64 s, .int .i64 q] := by
  obtain ⟨v0, v1, v2, v3, y0, y1, y2, y3, n, rfl, g0, g1, g2, g3⟩ := open_agg4 Try.underlying28 (by kernel_rfl) (by kernel_rfl) hv h
  obtain ⟨a0, e0, -, w0⟩ := DataW.trod_int Try.underlying3 g0
  obtain ⟨a1, e1, -, w1⟩ := DataW.trod_int Try.underlying3 g1
  obtain ⟨a2, e2, -, w2⟩ := DataW.trod_int Try.underlying3 g2
  obtain ⟨a3, e3, -, w3⟩ := DataW.trod_int Try.underlying3 g3
  simp at e0 e1 e2 e3
  subst e0 e1 e2 e3
  exact ⟨a0, a1, a2, a3, rfl⟩

theorem ints_of {H : Type} {enc : TypeId × Value → H} {w : World} {base : Nat} {spare : Nat → Bool} {held : Bool} {r : Reach} {b0 : Nat} {v : Value} {d : DataW H} {p : List MemPlace}
    (hv : Value.okWide Try.prog w r b0 29 v) (h0 : DataW.Trod enc Try.prog w base spare held 29 v d p) :
    ∃ ds : List Int, IntSl w v ds ∧ ds.length ≤ 9223372036854775807 := by
  obtain ⟨x0, x1, x2, rfl⟩ := okWide_slice Try.underlying29 hv
  obtain ⟨fuel, h⟩ := h0
  have h2 : DataW.trod enc Try.prog w base spare held fuel 29 [.slice x0 x1 x2] = some (d, p) := by simpa [Value.cells] using h
  rcases open_ints Try.underlying29 Try.underlying3 (by kernel_rfl) h2 with ⟨hcs, _⟩ | ⟨a, len, cap, zs, hcs, _, hl, hm, hz, _, hcell, hwz⟩
  · obtain ⟨rfl, rfl, rfl⟩ : x0 = none ∧ x1 = 0 ∧ x2 = 0 := by simpa using hcs
    exact ⟨[], .inl ⟨⟨none, 0, rfl⟩, rfl⟩, by simp⟩
  · obtain ⟨rfl, rfl, rfl⟩ : x0 = some a ∧ x1 = len ∧ x2 = cap := by simpa using hcs
    have hlen : x1 ≤ zs.length := by rw [hz]; split <;> omega
    have hmax : (zs.take x1).length ≤ 9223372036854775807 := by
      unfold maxLen at hm
      simp; omega
    by_cases h0 : x1 = 0
    · subst h0
      exact ⟨[], .inl ⟨⟨some a, x2, rfl⟩, rfl⟩, by simp⟩
    · obtain ⟨b, off, rfl, hc⟩ := ints_at hcell (by omega)
      have hln : (zs.take x1).length = x1 := by simp; omega
      refine ⟨zs.take x1, .inr ⟨b, off, x2, by rw [hln], fun i hi => ?_⟩, hmax⟩
      have := hc i (by omega)
      rw [this, take_getD, if_pos (by omega)]
      simp
end Go.Proofs.Ytbflocamicebhaa
