/- What arguments that come in read as: slices of whatever element type, structs by value, numbers. Conditions: none. -/
import Derived.Test.YtgnamahdchefnaaScan
import Derived.ProofKit
import Derived.OpenShut
import Derived.Lib.SmallJoins
import Derived.Carry
import Derived.Deep.Slices
import Derived.Deep.Fields
import Derived.ChangeSame
namespace Go.Proofs.Ytgnamahdchefnaa
open Go.ChangeShapes Go.WideShapes Go.ChangeAt Go.RowKit Go.Joins Go.Deep

/-- a list out of a property of each index -/
theorem list_of {α : Type} (d : α) {R : Nat → α → Prop} : ∀ n : Nat, (∀ i, i < n → ∃ x, R i x) → ∃ xs : List α, xs.length = n ∧ ∀ i, i < n → R i (xs[i]?.getD d)
  | 0, _ => ⟨[], rfl, fun i hi => by omega⟩
  | n + 1, h => by
    obtain ⟨xs, hl, hx⟩ := list_of d n (fun i hi => h i (by omega))
    obtain ⟨x, hxn⟩ := h n (by omega)
    refine ⟨xs ++ [x], by simp [hl], fun i hi => ?_⟩
    rcases Nat.lt_or_ge i n with h1 | h1
    · rw [List.getElem?_append_left (by omega)]; exact hx i h1
    · obtain rfl : i = n := by omega
      rw [List.getElem?_append_right (by omega)]
      simpa [hl] using hxn

theorem okWide_array {P : Program} {w : World} {r : Reach} {base : Nat} {t : TypeId} {v : Value} {n : Nat} {e : TypeId} (ht : P.underlying t = some (.array n e)) (h : Value.okWide P w r base t v) : ∃ cs, v = .agg cs ∧ cs.size = P.cellsOf t := by
  simp only [Value.okWide, ht] at h
  obtain ⟨cs, h1, h2, _⟩ := h
  exact ⟨cs, h1, h2⟩

theorem wf_u8 {n : Int} (h : (Lit.int .u8 n).wf = true) : 0 ≤ n ∧ n ≤ 255 := by simpa [Lit.wf, IntKind.min, IntKind.max, IntKind.signed, IntKind.bits] using h
theorem wf_u16 {n : Int} (h : (Lit.int .u16 n).wf = true) : 0 ≤ n ∧ n ≤ 65535 := by simpa [Lit.wf, IntKind.min, IntKind.max, IntKind.signed, IntKind.bits] using h
theorem wf_u64 {n : Int} (h : (Lit.int .u64 n).wf = true) : 0 ≤ n ∧ n ≤ 18446744073709551615 := by simpa [Lit.wf, IntKind.min, IntKind.max, IntKind.signed, IntKind.bits] using h
theorem wf_i64 {n : Int} (h : (Lit.int .i64 n).wf = true) : -9223372036854775808 ≤ n ∧ n ≤ 9223372036854775807 := by simpa [Lit.wf, IntKind.min, IntKind.max, IntKind.signed, IntKind.bits] using h

section
variable {H : Type} {enc : TypeId × Value → H} {P : Program} {w : World} {base : Nat} {spare : Nat → Bool} {held : Bool}

theorem row_of {t e : TypeId} {fuel n : Nat} {v : Value} {x : DataW H × List MemPlace} (ht : P.underlying t = some (.slice e)) (hC : P.cellsOf e = n) (hn : 0 < n) (h : DataW.trod enc P w base spare held fuel t [v] = some x) :
    (∃ a cap, v = .slice a 0 cap) ∨ ∃ (b off len cap m : Nat), v = .slice (some ⟨b, off, none⟩) len cap ∧ 0 < len ∧ len ≤ 9223372036854775807 ∧ len ≤ cap ∧
      ∀ i, i < len → ∃ cs y, cs.length = n ∧ (∀ j, j < n → w.cell? ⟨b, off + i * n + j, none⟩ = cs[j]?) ∧ DataW.trod enc P w base spare held m e cs = some y := by
  rcases open_slice ht h with ⟨hcs, _⟩ | ⟨a, len, cap, m, k, D, Pl, hcs, _, hl, hm, hmm, _, hi⟩
  · exact .inl ⟨none, 0, by simpa using hcs⟩
  · obtain rfl : v = .slice (some a) len cap := by simpa using hcs
    rcases Nat.eq_zero_or_pos len with h0 | h0
    · subst h0; exact .inl ⟨_, _, rfl⟩
    · have hlm : len ≤ m := by rw [hmm]; split <;> omega
      have hmax : len ≤ 9223372036854775807 := by unfold maxLen at hm; omega
      obtain ⟨cs0, hc0, _⟩ := hi 0 (by omega)
      obtain ⟨_, hl0, ha0⟩ := World.cells?_some hc0
      rw [hC] at hl0 ha0
      have hat0 := ha0 0 hn
      have hspot : a.spot = none := by
        have hv : cs0[0]? = some (cs0[0]'(by omega)) := List.getElem?_eq_getElem (by omega)
        rw [hv] at hat0
        simpa [Addr.add] using World.cell?_spot hat0
      obtain ⟨b, off, spot⟩ := a
      subst hspot
      refine .inr ⟨b, off, len, cap, k, rfl, h0, hmax, hl, fun i hil => ?_⟩
      obtain ⟨cs, hc, ht'⟩ := hi i (by omega)
      obtain ⟨_, hcl, hat⟩ := World.cells?_some hc
      rw [hC] at hcl hat
      refine ⟨cs, _, hcl, fun j hj => ?_, ht'⟩
      have := hat j hj
      rw [add_add, add_plain] at this
      rw [Nat.add_assoc]
      exact this

theorem numSl_of {K : IntKind} {t e : TypeId} {fuel : Nat} {v : Value} {x : DataW H × List MemPlace} (ht : P.underlying t = some (.slice e)) (he : P.underlying e = some (.int K)) (hC : P.cellsOf e = 1) (h : DataW.trod enc P w base spare held fuel t [v] = some x) :
    ∃ xs : List Int, NumSl K w v xs ∧ xs.length ≤ 9223372036854775807 ∧ ∀ i, i < xs.length → (Lit.int K (nth xs i)).wf = true := by
  rcases row_of ht hC (by omega) h with ⟨a, cap, rfl⟩ | ⟨b, off, len, cap, m, rfl, h0, hm, _, hi⟩
  · exact ⟨[], .inl ⟨⟨a, cap, rfl⟩, rfl⟩, by simp, fun i hi => by simp at hi⟩
  · obtain ⟨xs, hl, hx⟩ := list_of (0 : Int) (R := fun i n => w.cell? ⟨b, off + i, none⟩ = some (.int K n) ∧ (Lit.int K n).wf = true) len (fun i hil => by
      obtain ⟨cs, y, hcl, hc, ht'⟩ := hi i hil
      match cs, hcl with
      | [c], _ =>
        obtain ⟨n, e0, -, wn⟩ := DataW.trod_int he ht'
        simp at e0
        subst e0
        have := hc 0 (by omega)
        exact ⟨n, by simpa using this, wn⟩)
    subst hl
    exact ⟨xs, .inr ⟨b, off, cap, rfl, fun i hi => (hx i hi).1⟩, hm, fun i hi => (hx i hi).2⟩

theorem open_agg1 {r : Reach} {b0 : Nat} {t : TypeId} {f0 : Field} {v : Value} {d : DataW H} {p : List MemPlace} (hs : P.underlying t = some (.struct #[f0])) (hone : oneCellFields P #[f0] = true) (hC : P.cellsOf t = 1)
    (hv : Value.okWide P w r b0 t v) (h : DataW.Trod enc P w base spare held t v d p) :
    ∃ (v0 : Value) (y0 : DataW H × List MemPlace) (n : Nat), v = .agg #[v0] ∧ DataW.trod enc P w base spare held n f0.type [v0] = some y0 := by
  obtain ⟨cs, rfl, hsz⟩ := okWide_struct hs hv
  obtain ⟨l⟩ := cs
  match l, hsz.trans hC with
  | [c0], _ =>
    obtain ⟨fuel, hf⟩ := h
    obtain ⟨xs, n, _, _, _, hlen, hg⟩ := DataW.trod_struct hs hf
    obtain ⟨o0, k0⟩ := hone_of hone 0 f0 rfl
    match xs, hlen with
    | [y0], _ => exact ⟨c0, y0, n, rfl, by simpa [Value.cells, o0, k0] using hg 0 f0 rfl⟩

/-- a struct of one-cell fields, read from its cells: each field's own reading -/
theorem fields_of {t : TypeId} {fs : Array Field} {fuel : Nat} {cs : List Value} {x : DataW H × List MemPlace} (hs : P.underlying t = some (.struct fs)) (hone : oneCellFields P fs = true) (h : DataW.trod enc P w base spare held fuel t cs = some x) (hl : cs.length = fs.size) :
    ∃ n, ∀ (j : Nat) (f : Field) (c : Value), fs[j]? = some f → cs[j]? = some c → ∃ y, DataW.trod enc P w base spare held n f.type [c] = some y := by
  obtain ⟨ys, n, _, _, _, hyl, hf⟩ := DataW.trod_struct hs h
  refine ⟨n, fun j f c hj hc => ?_⟩
  obtain ⟨ho, hk⟩ := hone_of hone j f hj
  have h1 := hf j f hj
  rw [ho, hk] at h1
  obtain ⟨hjl, hce⟩ := List.getElem?_eq_some_iff.1 hc
  have hone' : (cs.drop j).take 1 = [c] := by
    rw [List.drop_eq_getElem_cons hjl, ← hce]
    rfl
  rw [hone'] at h1
  have hjs : j < ys.length := by have := (Array.getElem?_eq_some_iff.1 hj).1; omega
  exact ⟨ys[j], by rw [h1]; exact List.getElem?_eq_getElem hjs⟩
end
end Go.Proofs.Ytgnamahdchefnaa
