/- What a plan that comes in reads as. Conditions: none. -/
import Derived.Test.YtbflocamicebhaaL3
import Derived.ProofKit
import Derived.OpenShut
import Derived.Lib.SmallJoins
import Derived.Carry
import Derived.Deep.Fields
import Derived.ChangeSame
namespace Go.Proofs.Ytbflocamicebhaa
open Go.ChangeShapes Go.WideShapes Go.ChangeAt Go.RowKit Go.Joins Go.Deep

theorem own : ownKnob Try.prog.godebug = none := by kernel_rfl
theorem laidOut : laidOutB Try.prog = true := by kernel_rfl

section
variable {H : Type} {enc : TypeId × Value → H} {P : Program} {w : World} {base : Nat} {spare : Nat → Bool} {held : Bool}
theorem open_agg5 {r : Reach} {b0 : Nat} {t : TypeId} {f0 f1 f2 f3 f4 : Field} {v : Value} {d : DataW H} {p : List MemPlace} (hs : P.underlying t = some (.struct #[f0, f1, f2, f3, f4])) (hone : oneCellFields P #[f0, f1, f2, f3, f4] = true) (hC : P.cellsOf t = 5)
    (hv : Value.okWide P w r b0 t v) (h : DataW.Trod enc P w base spare held t v d p) :
    ∃ (v0 v1 v2 v3 v4 : Value) (y0 y1 y2 y3 y4 : DataW H × List MemPlace) (n : Nat), v = .agg #[v0, v1, v2, v3, v4] ∧
      DataW.trod enc P w base spare held n f0.type [v0] = some y0 ∧ DataW.trod enc P w base spare held n f1.type [v1] = some y1 ∧ DataW.trod enc P w base spare held n f2.type [v2] = some y2 ∧ DataW.trod enc P w base spare held n f3.type [v3] = some y3 ∧ DataW.trod enc P w base spare held n f4.type [v4] = some y4 := by
  obtain ⟨cs, rfl, hsz⟩ := okWide_struct hs hv
  obtain ⟨l⟩ := cs
  match l, hsz.trans hC with
  | [c0, c1, c2, c3, c4], _ =>
    obtain ⟨fuel, hf⟩ := h
    obtain ⟨xs, n, _, _, _, hlen, hg⟩ := DataW.trod_struct hs hf
    obtain ⟨o0, k0⟩ := hone_of hone 0 f0 rfl
    obtain ⟨o1, k1⟩ := hone_of hone 1 f1 rfl
    obtain ⟨o2, k2⟩ := hone_of hone 2 f2 rfl
    obtain ⟨o3, k3⟩ := hone_of hone 3 f3 rfl
    obtain ⟨o4, k4⟩ := hone_of hone 4 f4 rfl
    match xs, hlen with
    | [y0, y1, y2, y3, y4], _ =>
      exact ⟨c0, c1, c2, c3, c4, y0, y1, y2, y3, y4, n, rfl, by simpa [Value.cells, o0, k0] using hg 0 f0 rfl, by simpa [Value.cells, o1, k1] using hg 1 f1 rfl, by simpa [Value.cells, o2, k2] using hg 2 f2 rfl, by simpa [Value.cells, o3, k3] using hg 3 f3 rfl, by simpa [Value.cells, o4, k4] using hg 4 f4 rfl⟩
end

theorem wf_u8 {n : Int} (h : (Lit.int .u8 n).wf = true) : 0 ≤ n ∧ n ≤ 255 := by simpa [Lit.wf, IntKind.min, IntKind.max, IntKind.signed, IntKind.bits] using h

theorem wf_u16 {n : Int} (h : (Lit.int .u16 n).wf = true) : 0 ≤ n ∧ n ≤ 65535 := by simpa [Lit.wf, IntKind.min, IntKind.max, IntKind.signed, IntKind.bits] using h

theorem bytes_of {H : Type} {enc : TypeId × Value → H} {P : Program} {w : World} {base : Nat} {spare : Nat → Bool} {held : Bool} {t e : TypeId} {fuel : Nat} {v : Value} {x : DataW H × List MemPlace}
    (ht : P.underlying t = some (.slice e)) (he : P.underlying e = some (.int .u8)) (hC : P.cellsOf e = 1) (h : DataW.trod enc P w base spare held fuel t [v] = some x) :
    ∃ ds : List Int, ByteSl w v ds ∧ (∀ i : Nat, 0 ≤ ds[i]?.getD 0 ∧ ds[i]?.getD 0 ≤ 255) ∧ ds.length ≤ 9223372036854775807 := by
  rcases open_ints ht he hC h with ⟨hcs, _⟩ | ⟨a, len, cap, zs, hcs, _, hl, hm, hz, _, hcell, hwz⟩
  · obtain rfl : v = .slice none 0 0 := by simpa using hcs
    exact ⟨[], .inl ⟨⟨none, 0, rfl⟩, rfl⟩, by simp, by simp⟩
  · obtain rfl : v = .slice (some a) len cap := by simpa using hcs
    have hlen : len ≤ zs.length := by rw [hz]; split <;> omega
    have hrange : ∀ i : Nat, 0 ≤ (zs.take len)[i]?.getD 0 ∧ (zs.take len)[i]?.getD 0 ≤ 255 := by
      intro i
      rw [take_getD]
      split
      · rcases Nat.lt_or_ge i zs.length with h1 | h1
        · have := wf_u8 (hwz zs[i] (List.getElem_mem h1))
          simpa [h1] using this
        · simp [h1]
      · omega
    have hmax : (zs.take len).length ≤ 9223372036854775807 := by
      unfold maxLen at hm
      simp; omega
    by_cases h0 : len = 0
    · subst h0
      exact ⟨[], .inl ⟨⟨some a, cap, rfl⟩, rfl⟩, by simp, by simp⟩
    · obtain ⟨b, off, rfl, hc⟩ := ints_at hcell (by omega)
      have hln : (zs.take len).length = len := by simp; omega
      refine ⟨zs.take len, .inr ⟨b, off, cap, by rw [hln], fun i hi => ?_⟩, hrange, hmax⟩
      have := hc i (by omega)
      rw [this, take_getD, if_pos (by omega)]
      simp

theorem open_plan {H : Type} {enc : TypeId × Value → H} {w : World} {base : Nat} {spare : Nat → Bool} {held : Bool} {r : Reach} {b0 : Nat} {v : Value} {d : DataW H} {p : List MemPlace}
    (hv : Value.okWide Try.prog w r b0 24 v) (h : DataW.Trod enc Try.prog w base spare held 24 v d p) :
    ∃ pc pl ps pq sv ds, v = plV pc pl ps pq sv ∧ PlanOk pc pl ps pq ds ∧ ByteSl w sv ds := by
  obtain ⟨v0, v1, v2, v3, v4, y0, y1, y2, y3, y4, n, rfl, h0, h1, h2, h3, h4⟩ := open_agg5 Try.underlying24 (by kernel_rfl) (by kernel_rfl) hv h
  obtain ⟨a0, e0, -, w0⟩ := DataW.trod_int Try.underlying5 h0
  obtain ⟨a1, e1, -, w1⟩ := DataW.trod_int Try.underlying5 h1
  obtain ⟨a2, e2, -, w2⟩ := DataW.trod_int Try.underlying5 h2
  obtain ⟨a3, e3, -, w3⟩ := DataW.trod_int Try.underlying5 h3
  simp at e0 e1 e2 e3
  subst e0 e1 e2 e3
  obtain ⟨ds, hb, hr, hl⟩ := bytes_of Try.underlying22 Try.underlying5 (by kernel_rfl) h4
  have := wf_u8 w0; have := wf_u8 w1; have := wf_u8 w2; have := wf_u8 w3
  exact ⟨a0, a1, a2, a3, v4, ds, rfl, ⟨⟨by omega, by omega, by omega, by omega, by omega, by omega, by omega, by omega⟩, hr, hl⟩, hb⟩
end Go.Proofs.Ytbflocamicebhaa
