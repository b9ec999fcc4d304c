/- What the arguments of this chapter's laws read as. Conditions: none. -/
import Derived.Test.YtgnamahdchefnaaRows
import Derived.Test.YtgnamahdchefnaaOpen
import Derived.Test.YtgnamahdchefnaaAE
import Derived.Test.YtgnamahdchefnaaA6
import Derived.Test.YtgnamahdchefnaaPA
namespace Go.Proofs.Ytgnamahdchefnaa
open Go.ChangeShapes Go.WideShapes Go.ChangeAt Go.RowKit Go.Joins Go.Deep

theorem own : ownKnob Try.prog.godebug = none := by kernel_rfl
theorem laidOut : laidOutB Try.prog = true := by kernel_rfl
theorem cells5 : Try.prog.cellsOf 5 = 1 := by kernel_rfl
theorem cells28 : Try.prog.cellsOf 28 = 3 := by kernel_rfl
theorem cells35 : Try.prog.cellsOf 35 = 1 := by kernel_rfl
section
variable {H : Type} {enc : TypeId × Value → H} {w : World} {base : Nat} {spare : Nat → Bool} {held : Bool} {r : Reach} {b0 : Nat} {v : Value} {d : DataW H} {p : List MemPlace}
theorem open_stops {fuel : Nat} {x : DataW H × List MemPlace} (h : DataW.trod enc Try.prog w base spare held fuel 22 [v] = some x) :
    ∃ xs : List Int, NumSl .u8 w v xs ∧ (∀ i, i < xs.length → 0 ≤ nth xs i ∧ nth xs i ≤ 255) ∧ ∃ a cap, v = .slice a xs.length cap ∧ xs.length ≤ cap := by
  rcases row_of Try.underlying22 cells5 (by omega) h with ⟨a, cap, rfl⟩ | ⟨b, off, len, cap, m, rfl, h0, hm, hcap, hi⟩
  · exact ⟨[], .inl ⟨⟨a, cap, rfl⟩, rfl⟩, fun i hi => by simp at hi, a, cap, rfl, Nat.zero_le _⟩
  · obtain ⟨xs, hl, hx⟩ := list_of (0 : Int) (R := fun i n => w.cell? ⟨b, off + i, none⟩ = some (.int .u8 n) ∧ (0 ≤ n ∧ n ≤ 255)) len (fun i hil => by
      obtain ⟨cs, y, hcl, hc, ht'⟩ := hi i hil
      match cs, hcl with
      | [c], _ =>
        obtain ⟨n, e0, -, wn⟩ := DataW.trod_int Try.underlying5 ht'
        simp at e0
        subst e0
        have := hc 0 (by omega)
        exact ⟨n, by simpa using this, wf_u8 wn⟩)
    subst hl
    exact ⟨xs, .inr ⟨b, off, cap, rfl, fun i hi => (hx i hi).1⟩, fun i hi => (hx i hi).2, _, cap, rfl, hcap⟩
theorem open_plan (hv : Value.okWide Try.prog w r b0 25 v) (h : DataW.Trod enc Try.prog w base spare held 25 v d p) :
    ∃ (v0 : Value) (pl : Pl), v = planV v0 pl ∧ pl.Ok ∧ NumSl .u8 w v0 pl.ss ∧ ∃ a cap, v0 = .slice a pl.ss.length cap ∧ pl.ss.length ≤ cap := by
  obtain ⟨cs, rfl, hsz⟩ := okWide_struct Try.underlying25 hv
  have hC : Try.prog.cellsOf 25 = 7 := by kernel_rfl
  have hA : Try.prog.cellsOf 23 = 3 := by kernel_rfl
  have hS : Try.prog.cellsOf 22 = 1 := by kernel_rfl
  obtain ⟨l⟩ := cs
  match l, hsz.trans hC with
  | [c0, c1, c2, c3, c4, c5, c6], _ =>
    obtain ⟨fuel, hf⟩ := h
    obtain ⟨xs, m, _, _, _, hlen, hg⟩ := DataW.trod_struct Try.underlying25 hf
    match xs, hlen with
    | [y0, y1, y2, y3, y4], _ =>
      have g0 := hg 0 _ rfl
      have g1 := hg 1 _ rfl
      have g2 := hg 2 _ rfl
      have g3 := hg 3 _ rfl
      have g4 := hg 4 _ rfl
      simp [Value.cells, hS] at g0
      simp [Value.cells, cells5] at g1 g2 g3
      simp [Value.cells, hA] at g4
      obtain ⟨ss, s1, s2, s3⟩ := open_stops g0
      obtain ⟨a1, e1, -, w1⟩ := DataW.trod_int Try.underlying5 g1
      obtain ⟨a2, e2, -, w2⟩ := DataW.trod_int Try.underlying5 g2
      obtain ⟨a3, e3, -, w3⟩ := DataW.trod_int Try.underlying5 g3
      obtain ⟨ys, m2, _, _, _, hlen2, hg2⟩ := DataW.trod_array Try.underlying23 g4
      rw [cells5] at hg2
      match ys, hlen2 with
      | [z0, z1, z2], _ =>
        have k0 := hg2 0 (by omega)
        have k1 := hg2 1 (by omega)
        have k2 := hg2 2 (by omega)
        simp at k0 k1 k2
        obtain ⟨d0, f0, -, u0⟩ := DataW.trod_int Try.underlying5 k0
        obtain ⟨d1, f1, -, u1⟩ := DataW.trod_int Try.underlying5 k1
        obtain ⟨d2, f2, -, u2⟩ := DataW.trod_int Try.underlying5 k2
        simp at e1 e2 e3 f0 f1 f2
        subst e1 e2 e3 f0 f1 f2
        exact ⟨c0, ⟨ss, a1, a2, a3, d0, d1, d2⟩, rfl, ⟨s2, wf_u8 w1, wf_u8 w2, wf_u8 w3, wf_u8 u0, wf_u8 u1, wf_u8 u2⟩, s1, s3⟩
theorem open_events (hv : Value.okWide Try.prog w r b0 26 v) (h : DataW.Trod enc Try.prog w base spare held 26 v d p) : ∃ ls : List Ev, EvSl w v ls := by
  obtain ⟨a0, len, cap, rfl⟩ := okWide_slice Try.underlying26 hv
  obtain ⟨fuel, hf⟩ := h
  have h' : DataW.trod enc Try.prog w base spare held fuel 26 [.slice a0 len cap] = some (d, p) := by simpa [Value.cells] using hf
  rcases row_of Try.underlying26 cells28 (by omega) h' with ⟨a, cap, e⟩ | ⟨b, off, len, cap, m, e, h0, hm, _, hi⟩
  · exact ⟨[], .inl ⟨⟨a, cap, e⟩, rfl⟩⟩
  · obtain ⟨ls, hl, hx⟩ := list_of (⟨0, 0, 0⟩ : Ev) (R := fun i x => w.cell? ⟨b, off + i * 3, none⟩ = some (.int .i64 x.k) ∧ w.cell? ⟨b, off + i * 3 + 1, none⟩ = some (.int .i64 x.d) ∧ w.cell? ⟨b, off + i * 3 + 2, none⟩ = some (.int .i64 x.i)) len (fun i hil => by
      obtain ⟨cs, y, hcl, hc, ht'⟩ := hi i hil
      match cs, hcl with
      | [k, dd, ii], hcl =>
        obtain ⟨q, hf⟩ := fields_of Try.underlying28 (by kernel_rfl) ht' (by rw [hcl]; rfl)
        obtain ⟨z0, g0⟩ := hf 0 _ k rfl rfl
        obtain ⟨z1, g1⟩ := hf 1 _ dd rfl rfl
        obtain ⟨z2, g2⟩ := hf 2 _ ii rfl rfl
        obtain ⟨a1, e1, -, w1⟩ := DataW.trod_int Try.underlying3 g0
        obtain ⟨a2, e2, -, w2⟩ := DataW.trod_int Try.underlying3 g1
        obtain ⟨a3, e3, -, w3⟩ := DataW.trod_int Try.underlying3 g2
        simp at e1 e2 e3
        subst e1 e2 e3
        have c0 := hc 0 (by omega)
        have c1 := hc 1 (by omega)
        have c2 := hc 2 (by omega)
        exact ⟨⟨a1, a2, a3⟩, by simpa using c0, by simpa [Nat.add_assoc] using c1, by simpa [Nat.add_assoc] using c2⟩)
    subst hl
    exact ⟨ls, .inr ⟨b, off, cap, e, hx⟩⟩
theorem open_event (hv : Value.okWide Try.prog w r b0 28 v) (h : DataW.Trod enc Try.prog w base spare held 28 v d p) : ∃ k dd ii : Int, v = evV k dd ii := by
  obtain ⟨v0, v1, v2, y0, y1, y2, n, rfl, -, -, h0, h1, h2⟩ := open_agg3 Try.underlying28 (by kernel_rfl) (by kernel_rfl) hv h
  obtain ⟨a0, e0, -, w0⟩ := DataW.trod_int Try.underlying3 h0
  obtain ⟨a1, e1, -, w1⟩ := DataW.trod_int Try.underlying3 h1
  obtain ⟨a2, e2, -, w2⟩ := DataW.trod_int Try.underlying3 h2
  simp at e0 e1 e2
  subst e0 e1 e2
  exact ⟨a0, a1, a2, rfl⟩
theorem open_reg (hv : Value.okWide Try.prog w r b0 37 v) (h : DataW.Trod enc Try.prog w base spare held 37 v d p) : ∃ (u : Value) (rg : Rg), v = regV u rg.c rg.o ∧ NumSl .u64 w u rg.s ∧ (∀ i, i < rg.s.length → 0 ≤ nth rg.s i ∧ nth rg.s i ≤ 18446744073709551615) ∧ (0 ≤ rg.c ∧ rg.c ≤ 18446744073709551615) ∧ (0 ≤ rg.o ∧ rg.o ≤ 18446744073709551615) := by
  obtain ⟨v0, v1, v2, y0, y1, y2, n, rfl, -, -, h0, h1, h2⟩ := open_agg3 Try.underlying37 (by kernel_rfl) (by kernel_rfl) hv h
  obtain ⟨xs, s1, s2, s3⟩ := numSl_of Try.underlying34 Try.underlying35 cells35 h0
  obtain ⟨a1, e1, -, w1⟩ := DataW.trod_int Try.underlying35 h1
  obtain ⟨a2, e2, -, w2⟩ := DataW.trod_int Try.underlying35 h2
  simp at e1 e2
  subst e1 e2
  exact ⟨v0, ⟨xs, a1, a2⟩, rfl, s1, fun i hi => wf_u64 (s3 i hi), wf_u64 w1, wf_u64 w2⟩
end
end Go.Proofs.Ytgnamahdchefnaa
