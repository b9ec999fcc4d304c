/- The contract of known. Conditions: none. -/
import Derived.Test.YtoendfpfnfeccaaW16
namespace Go.Proofs.Ytoendfpfnfeccaa
open Go.RowKit Go.Shelf

theorem ex_fit : CsFit exCss := ⟨by decide, fun k => by
  match k with
  | 0 => decide
  | 1 => decide
  | 2 => decide
  | k + 3 =>
    have : nths exCss (k + 3) = [] := rfl
    rw [this]; simp⟩
theorem ex_bound : boundF exCss [3, 2, 2] [0, -2, 0] = (5, 0) := by
  unfold boundF
  rw [ex_check, ex_pot]
  rfl
theorem ex_ckP : ckP exCss 1 = 0 := by decide
set_option maxRecDepth 100000 in
set_option maxHeartbeats 4000000 in
theorem known_any (w : World) : Calls Try.prog 12 #[] w (BoolBelow true w) := by
  have hex := fun w => example_any w
  have hbs := fun v w' (h : SlSl w' v exCss) => Best_res v exCss w' h ex_fit ex_check
  have hpt := fun v w' (h : SlSl w' v exCss) => Partial_ok v exCss 1 w' h ex_fit ex_ckP
  have hbd := fun v r l w' (h : SlSl w' v exCss) (h1 : NumSl .i64 w' r [3, 2, 2]) (h2 : NumSl .i64 w' l [0, -2, 0]) => Bound_any v r l exCss [3, 2, 2] [0, -2, 0] w' h h1 h2 ex_fit
  rw [ex_bound] at hbd
  replace hex := Lib.hid hex
  replace hbs := Lib.hid hbs
  replace hpt := Lib.hid hpt
  replace hbd := Lib.hid hbd
  go_enter Try.func12, Try.ntmps12
  go_wp2_with fail
  refine (hex.out _).mono ?_
  rintro e w1 ⟨v1, rfl, hv1, hb1⟩
  go_wp2_with fail
  refine (hbs.out _ _ hv1).mono ?_
  rintro e w2 ⟨vc, vr, vl, tot, cs, rows, pots, rfl, hc, hr, hl, hb2, hR⟩
  obtain ⟨ht, hcl, h01⟩ := ex_best hR.out
  subst ht
  have hB2 := hb1.trans (hb2.mono hb1.size)
  obtain ⟨b, off, cap, rfl, hcc⟩ := hc.at (k := 0) (by omega)
  obtain ⟨ar, cr, rfl⟩ := hr.len
  obtain ⟨al, cl, rfl⟩ := hl.len
  have hc0 := hcc 0 (by omega)
  rw [h01] at hc0
  rw [hcl]
  have x1 := BoxC.new w2 32 #[.slice (some ⟨b, off, none⟩) 3 cap, .int .i64 5, .slice ar rows.length cr, .slice al pots.length cl]
  have hB3 := hB2.alloc hB2.size (.cells #[.slice (some ⟨b, off, none⟩) 3 cap, .int .i64 5, .slice ar rows.length cr, .slice al pots.length cl] 32)
  have hc1 : (w2.alloc (.cells #[.slice (some ⟨b, off, none⟩) 3 cap, .int .i64 5, .slice ar rows.length cr, .slice al pots.length cl] 32)).cell? ⟨b, off, none⟩ = some (.int .i64 1) := (((Below.refl _ w2).alloc (Nat.le_refl _) _).cell (p := ⟨b, off, none⟩) (lt_of_cell hc0)).trans hc0
  replace hcl := Lib.hid hcl
  replace h01 := Lib.hid h01
  clear hc hr hl hcc hc0 hv1 hb1 hb2 hR hB2
  unfold resB
  go_wp2_with fail
  refine (hex.out _).mono ?_
  rintro e w3 ⟨v3, rfl, hv3, hb3⟩
  generalize w2.alloc (.cells #[.slice (some ⟨b, off, none⟩) 3 cap, .int .i64 5, .slice ar rows.length cr, .slice al pots.length cl] 32) = W2 at x1 hB3 hc1 hb3
  generalize w2.heap.size = B1 at x1 ⊢
  have hB4 := hB3.trans (hb3.mono hB3.size)
  have x3 := x1.grown hb3
  have hc3 := (hb3.cell (p := ⟨b, off, none⟩) (lt_of_cell hc1)).trans hc1
  clear x1 hB3 hc1 hb3
  go_wp2_with fail
  refine (hpt.out _ _ hv3).mono ?_
  rintro e w4 ⟨vc', vr', vl', tot', cs', rows', pots', rfl, hc', hr', hl', hb4, hR'⟩
  have ht' := ex_part hR'.out
  subst ht'
  have hB5 := hB4.trans (hb4.mono hB4.size)
  have x4 := x3.grown hb4
  have hc4 := (hb4.cell (p := ⟨b, off, none⟩) (lt_of_cell hc3)).trans hc3
  obtain ⟨ac', cc', rfl⟩ := hc'.len
  obtain ⟨ar', cr', rfl⟩ := hr'.len
  obtain ⟨al', cl', rfl⟩ := hl'.len
  have y1 := BoxC.new w4 32 #[.slice ac' cs'.length cc', .int .i64 2, .slice ar' rows'.length cr', .slice al' pots'.length cl']
  have x5 := x4.alloc (.cells #[.slice ac' cs'.length cc', .int .i64 2, .slice ar' rows'.length cr', .slice al' pots'.length cl'] 32)
  have hB6 := hB5.alloc hB5.size (.cells #[.slice ac' cs'.length cc', .int .i64 2, .slice ar' rows'.length cr', .slice al' pots'.length cl'] 32)
  have hc5 : (w4.alloc (.cells #[.slice ac' cs'.length cc', .int .i64 2, .slice ar' rows'.length cr', .slice al' pots'.length cl'] 32)).cell? ⟨b, off, none⟩ = some (.int .i64 1) := (((Below.refl _ w4).alloc (Nat.le_refl _) _).cell (p := ⟨b, off, none⟩) (lt_of_cell hc4)).trans hc4
  clear hc' hr' hl' hv3 hb4 hR' hB4 hB5 x3 x4 hc3 hc4
  unfold resB
  go_wp2_with fail
  refine (hex.out _).mono ?_
  rintro e w5 ⟨v5, rfl, hv5, hb5⟩
  generalize w4.alloc (.cells #[.slice ac' cs'.length cc', .int .i64 2, .slice ar' rows'.length cr', .slice al' pots'.length cl'] 32) = W4 at x5 y1 hB6 hc5 hb5
  generalize w4.heap.size = B2 at y1 ⊢
  have hB7 := hB6.trans (hb5.mono hB6.size)
  have x6 := x5.grown hb5
  have y6 := y1.grown hb5
  have hc6 := (hb5.cell (p := ⟨b, off, none⟩) (lt_of_cell hc5)).trans hc5
  have hA : Below w5.heap.size w5 ((w5.alloc (.cells #[.int .i64 3, .int .i64 2, .int .i64 2] 3)).alloc (.cells #[.int .i64 0, .int .i64 (-2), .int .i64 0] 3)) := ((Below.refl _ w5).alloc (Nat.le_refl _) _).alloc (by simp) _
  have z1 := num3 ((BoxC.new w5 3 #[.int .i64 3, .int .i64 2, .int .i64 2]).alloc (.cells #[.int .i64 0, .int .i64 (-2), .int .i64 0] 3))
  have z2 := num3 (BoxC.new (w5.alloc (.cells #[.int .i64 3, .int .i64 2, .int .i64 2] 3)) 3 #[.int .i64 0, .int .i64 (-2), .int .i64 0])
  rw [World.size_alloc] at z2
  have hcall := Lib.hid (hbd.out _ _ _ _ (hv5.mono hA) z1 z2)
  have x7 := x6.grown hA
  have y7 := y6.grown hA
  have hB8 := hB7.trans (hA.mono hB7.size)
  have hc7 := (hA.cell (p := ⟨b, off, none⟩) (lt_of_cell hc6)).trans hc6
  clear x5 y1 hB6 hc5 hb5 x6 y6 hc6 hB7 hA z1 z2 hv5
  go_wp2_with fail
  refine hcall.out.mono ?_
  rintro e w6 ⟨rfl, hb6⟩
  have x8 := x7.grown hb6
  have y8 := y7.grown hb6
  have hc8 := (hb6.cell (p := ⟨b, off, none⟩) (lt_of_cell hc7)).trans hc7
  have hB9 := hB8.trans (hb6.mono hB8.size)
  have q0 := x8.cell 0 rfl
  have q1 := x8.cell 1 rfl
  have q2 := y8.cell 1 rfl
  clear hcall x7 y7 hc7 hB8 hb6
  go_wp2
  go_ret
  exact ⟨rfl, hB9⟩
end Go.Proofs.Ytoendfpfnfeccaa
