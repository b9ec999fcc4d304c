/- Opener for a list of registrations. Conditions: none. -/
import Derived.Test.YtbfldhmpgealpaaOpenS
import Derived.Test.YtbfldhmpgealpaaW23
namespace Go.Proofs.Ytbfldhmpgealpaa
open Go Go.RowKit Go.Shelf Go.ChangeShapes Go.WideShapes Go.ChangeAt
theorem cells39 : Try.prog.cellsOf 39 = 3 := by kernel_rfl
section
variable {H : Type} {enc : TypeId × Value → H} {w : World} {base : Nat} {spare : Nat → Bool} {held : Bool} {r : Reach} {b0 : Nat} {v : Value} {d : DataW H} {p : List MemPlace}
theorem regs_of {fuel : Nat} {x : DataW H × List MemPlace} (h : DataW.trod enc Try.prog w base spare held fuel 54 [v] = some x) : ∃ ls : List Rg, RgSl w v ls ∧ ls.length ≤ 9223372036854775807 := by
  rcases row_of Try.underlying54 cells39 (by omega) h with ⟨a, cap, rfl⟩ | ⟨b, off, len, cap, m, rfl, h0, hm, _, hi⟩
  · exact ⟨[], .inl ⟨⟨a, cap, rfl⟩, rfl⟩, by simp⟩
  · obtain ⟨ls, hl, hx⟩ := list_of (⟨[], 0, 0⟩ : Rg) (R := fun i r => ∃ u, w.cell? ⟨b, off + i * 3, none⟩ = some u ∧ NumSl .u64 w u r.s ∧ w.cell? ⟨b, off + i * 3 + 1, none⟩ = some (.int .u64 r.c) ∧ w.cell? ⟨b, off + i * 3 + 2, none⟩ = some (.int .u64 r.o)) len (fun i hil => by
      obtain ⟨cs, y, hcl, hc, ht'⟩ := hi i hil
      match cs, hcl with
      | [u, c, o], hcl =>
        obtain ⟨k, hf⟩ := fields_of Try.underlying39 (by kernel_rfl) ht' (by rw [hcl]; rfl)
        obtain ⟨z0, g0⟩ := hf 0 _ u rfl rfl
        obtain ⟨z1, g1⟩ := hf 1 _ c rfl rfl
        obtain ⟨z2, g2⟩ := hf 2 _ o rfl rfl
        obtain ⟨rs, r1, r2, r3⟩ := numSl_of Try.underlying36 Try.underlying37 cells37 g0
        obtain ⟨a1, e1, -, w1⟩ := DataW.trod_int Try.underlying37 g1
        obtain ⟨a2, e2, -, w2⟩ := DataW.trod_int Try.underlying37 g2
        simp at e1 e2
        subst e1 e2
        have c0 := hc 0 (by omega)
        have c1 := hc 1 (by omega)
        have c2 := hc 2 (by omega)
        exact ⟨⟨rs, a1, a2⟩, u, by simpa using c0, r1, by simpa [Nat.add_assoc] using c1, by simpa [Nat.add_assoc] using c2⟩)
    subst hl
    exact ⟨ls, .inr ⟨b, off, cap, rfl, hx⟩, hm⟩
theorem open_regs (hv : Value.okWide Try.prog w r b0 54 v) (h : DataW.Trod enc Try.prog w base spare held 54 v d p) : ∃ ls : List Rg, RgSl w v ls ∧ ls.length ≤ 9223372036854775807 := by
  obtain ⟨a0, len, cap, rfl⟩ := okWide_slice Try.underlying54 hv
  obtain ⟨fuel, hf⟩ := h
  exact regs_of (x := (d, p)) (by simpa [Value.cells] using hf)
end
end Go.Proofs.Ytbfldhmpgealpaa
