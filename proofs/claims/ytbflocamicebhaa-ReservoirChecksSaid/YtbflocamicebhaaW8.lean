/- Contracts of Fits and Make. Conditions: the plan's numbers are bytes. -/
import Derived.Test.YtbflocamicebhaaW7
import Derived.RegionTactic
namespace Go.Proofs.Ytbflocamicebhaa
open Go.RowKit Go.Shelf

/-- the value v reads as the list xs of bytes in w -/
def ByteSl (w : World) (v : Value) (xs : List Int) : Prop :=
  ((∃ a cap, v = .slice a 0 cap) ∧ xs = []) ∨ ∃ b off cap, v = .slice (some ⟨b, off, none⟩) xs.length cap ∧ ∀ i, i < xs.length → w.cell? ⟨b, off + i, none⟩ = some (.int .u8 (xs[i]?.getD 0))

theorem ByteSl.mono {w w' : World} {v : Value} {xs : List Int} (h : ByteSl w v xs) (hb : Below w.heap.size w w') : ByteSl w' v xs := by
  rcases h with h | ⟨b, off, cap, rfl, hc⟩
  · exact .inl h
  · exact .inr ⟨b, off, cap, rfl, fun i hi => (hb.cell (p := ⟨b, off + i, none⟩) (lt_of_cell (hc i hi))).trans (hc i hi)⟩
theorem ByteSl.len {w : World} {v : Value} {xs : List Int} (h : ByteSl w v xs) : ∃ a cap, v = .slice a xs.length cap := by
  rcases h with ⟨⟨a, cap, rfl⟩, rfl⟩ | ⟨b, off, cap, rfl, _⟩
  · exact ⟨a, cap, rfl⟩
  · exact ⟨some ⟨b, off, none⟩, cap, rfl⟩
theorem ByteSl.at {w : World} {v : Value} {xs : List Int} (h : ByteSl w v xs) {k : Nat} (hk : k < xs.length) : ∃ b off cap, v = .slice (some ⟨b, off, none⟩) xs.length cap ∧ w.cell? ⟨b, off + k, none⟩ = some (.int .u8 (xs[k]?.getD 0)) := by
  rcases h with ⟨_, rfl⟩ | ⟨b, off, cap, rfl, hc⟩
  · simp at hk
  · exact ⟨b, off, cap, rfl, hc k hk⟩

theorem fits_any (pc pl ps pq : Int) (v : Value) (ds : List Int) (w : World) (hv : ByteSl w v ds) (hm : ds.length ≤ 9223372036854775807) :
    Calls Try.prog 12 #[.agg #[.int .u8 pc, .int .u8 pl, .int .u8 ps, .int .u8 pq, v]] w fun e w' => e = .returned (.bool (decide (ds.length ≤ 12))) ∧ Below w.heap.size w w' := by
  obtain ⟨a, cap, rfl⟩ := hv.len
  go_enter Try.func12, Try.ntmps12
  go_wp2
  go_ret
  refine ⟨?_, (Below.refl _ _).alloc (Nat.le_refl _) _⟩
  congr 2
  simp
  omega

structure Byte4 (pc pl ps pq : Int) : Prop where
  c0 : 0 ≤ pc
  c1 : pc ≤ 255
  l0 : 0 ≤ pl
  l1 : pl ≤ 255
  s0 : 0 ≤ ps
  s1 : ps ≤ 255
  q0 : 0 ≤ pq
  q1 : pq ≤ 255

def MakePost (pc pl ps pq : Int) (ds : List Int) (w : World) (e : Ending) (w' : World) : Prop :=
  ∃ v, IntSl w' v (ds.take 12) ∧ e = .returned (.tuple #[rV pc (pl % (pc + 1)) ps (pq % (pc + 1)), v]) ∧ Below w.heap.size w w'

theorem info3 : (Try.prog.info? 3).map (fun i => (i.zero, i.size, i.bytes)) = some (some (.int .i64 0), 1, 8) := by kernel_rfl

theorem IntSl.of_owns {w : World} {base : Nat} {v : Value} {xs : List Int} (h : w.ownsRow base 3 1 v xs.length (xs.map (Value.int .i64))) : IntSl w v xs := by
  rcases FlatSl.of_owns h with ⟨rfl, h1, _⟩ | ⟨b, cap, rfl, _, hc⟩
  · exact .inl ⟨⟨none, 0, rfl⟩, List.eq_nil_of_length_eq_zero h1⟩
  · exact .inr ⟨b, 0, cap, rfl, fun i hi => by rw [Nat.zero_add]; exact hc i _ (by simp [hi])⟩

theorem take_snoc {ds : List Int} {k : Nat} (hk : k < ds.length) : (ds.take (k + 1)).map (Value.int .i64) = (ds.take k).map (Value.int .i64) ++ [.int .i64 (ds[k]?.getD 0)] := by
  rw [List.take_succ_eq_append_getElem hk, List.map_append]; simp [hk]

set_option maxRecDepth 100000 in
set_option maxHeartbeats 2000000 in
theorem make_any (pc pl ps pq : Int) (h : Byte4 pc pl ps pq) (v : Value) (ds : List Int) (hd : ∀ i : Nat, 0 ≤ ds[i]?.getD 0 ∧ ds[i]?.getD 0 ≤ 255) (w : World) (hv : ByteSl w v ds) (hm : ds.length ≤ 9223372036854775807) :
    Calls Try.prog 13 #[.agg #[.int .u8 pc, .int .u8 pl, .int .u8 ps, .int .u8 pq, v]] w (MakePost pc pl ps pq ds w) := by
  obtain ⟨a, cap, hva⟩ := hv.len
  have hb := ((Below.refl w.heap.size w).alloc (Nat.le_refl _) (.cells #[.int .u8 pc, .int .u8 pl, .int .u8 ps, .int .u8 pq, v] 24)).alloc (by simp) (.cells #[.int .i64 0, .int .i64 0, .int .i64 0, .int .i64 0] 28)
  have bP := (BoxC.new w 24 #[.int .u8 pc, .int .u8 pl, .int .u8 ps, .int .u8 pq, v]).alloc (.cells #[.int .i64 0, .int .i64 0, .int .i64 0, .int .i64 0] 28)
  obtain ⟨hc0, hc1, hl0, hl1, hs0, hs1, hq0, hq1⟩ := h
  subst hva
  go_enter Try.func13, Try.ntmps13
  go_wp2
  go_region
  have bR := BoxC.new ((w.alloc (.cells #[.int .u8 pc, .int .u8 pl, .int .u8 ps, .int .u8 pq, .slice a ds.length cap] 24)).alloc (.cells #[.int .i64 0, .int .i64 0, .int .i64 0, .int .i64 0] 28)) 28 #[.int .i64 pc, .int .i64 (pl % (pc + 1)), .int .i64 ps, .int .i64 (pq % (pc + 1))]
  have bZ := (BoxC.new (w.alloc (.cells #[.int .u8 pc, .int .u8 pl, .int .u8 ps, .int .u8 pq, .slice a ds.length cap] 24)) 28 #[.int .i64 0, .int .i64 0, .int .i64 0, .int .i64 0]).alloc (.cells #[.int .i64 pc, .int .i64 (pl % (pc + 1)), .int .i64 ps, .int .i64 (pq % (pc + 1))] 28)
  have bP2 := bP.alloc (.cells #[.int .i64 pc, .int .i64 (pl % (pc + 1)), .int .i64 ps, .int .i64 (pq % (pc + 1))] 28)
  have hb2 := hb.alloc (by simp; omega) (.cells #[.int .i64 pc, .int .i64 (pl % (pc + 1)), .int .i64 ps, .int .i64 (pq % (pc + 1))] 28)
  have hsz : (((w.alloc (.cells #[.int .u8 pc, .int .u8 pl, .int .u8 ps, .int .u8 pq, .slice a ds.length cap] 24)).alloc (.cells #[.int .i64 0, .int .i64 0, .int .i64 0, .int .i64 0] 28)).alloc (.cells #[.int .i64 pc, .int .i64 (pl % (pc + 1)), .int .i64 ps, .int .i64 (pq % (pc + 1))] 28)).heap.size = w.heap.size + 3 := by simp
  simp only [World.size_alloc] at bR bZ
  have hsz := show (World.drew (((w.alloc (.cells #[.int .u8 pc, .int .u8 pl, .int .u8 ps, .int .u8 pq, .slice a ds.length cap] 24)).alloc (.cells #[.int .i64 0, .int .i64 0, .int .i64 0, .int .i64 0] 28)).alloc (.cells #[.int .i64 pc, .int .i64 (pl % (pc + 1)), .int .i64 ps, .int .i64 (pq % (pc + 1))] 28))).heap.size = w.heap.size + 3 from hsz
  have bR := bR.drew
  have bZ := bZ.drew
  have bP3 := bP2.drew
  have hb3 := hb2.drew
  generalize (World.drew (((w.alloc (.cells #[.int .u8 pc, .int .u8 pl, .int .u8 ps, .int .u8 pq, .slice a ds.length cap] 24)).alloc (.cells #[.int .i64 0, .int .i64 0, .int .i64 0, .int .i64 0] 28)).alloc (.cells #[.int .i64 pc, .int .i64 (pl % (pc + 1)), .int .i64 ps, .int .i64 (pq % (pc + 1))] 28))) = W0 at hsz bR bZ bP3 hb3 ⊢
  clear bP bP2 hb hb2
  obtain ⟨i0, hi, hz0, hz1, hz2⟩ := info_parts info3
  have hB3 := hb3.size
  go_wp2
  go_loopw [6, 7] (fun v i wr => ∃ k : Nat, k ≤ ds.length ∧ k ≤ 12 ∧ i = .int .i64 k ∧ wr.ownsRow (w.heap.size + 3) 3 1 v k ((ds.take k).map (Value.int .i64)) ∧ Below (w.heap.size + 3) W0 wr) (fun _ i _ => 12 - (intOf i).toNat)
  case atStart => exact ⟨0, by omega, by omega, rfl, World.ownsRow_nil _ _ _ _, Below.refl _ _⟩
  case round =>
    rename_i u6 _
    obtain ⟨k, hk, hk2, rfl, hrow, hB⟩ := hrel
    have tP := bP3.below hB (by omega)
    have tR := bR.below hB (by omega)
    have tZ := bZ.below hB (by omega)
    have p0 := tP.cell 4 rfl
    have hBs := hB.size
    by_cases hlt : k < ds.length ∧ k < 12
    · obtain ⟨hlt, hlt2⟩ := hlt
      obtain ⟨b, off, cap', he, hck⟩ := hv.at hlt
      cases he
      have hlc := lt_of_cell hck
      have tck := ((hB.cell (p := ⟨b, off + k, none⟩) (Nat.lt_of_lt_of_le hlc (by omega))).trans (hb3.cell (p := ⟨b, off + k, none⟩) hlc)).trans hck
      have hdk := hd k
      have hsn := take_snoc hlt
      have hxk : (ds[k]?.getD 0) = ds[k] := by simp [hlt]
      rw [hxk] at hdk tck hsn
      generalize ds[k] = dk at hdk tck hsn
      obtain ⟨hd0, hd1⟩ := hdk
      have hsn := Lib.hid hsn
      clear hck hlc hv hxk hd
      go_wp2_with (at_builtin; refine wpList_append_own _ rfl _ _ 29 rfl (w.heap.size + 3) 3 i0 _ 1 8 Try.underlying29 hi hz0 hz1 hz2 rfl (by decide) _ _ _ rfl (hrow.alloc _) ⟨wr.heap.size, 0, none⟩ 1 1 [.int .i64 dk] rfl rfl (cells_new _ _ _) (by simp [Value.oneCell']) (by unfold maxLen; omega) (by omega) (by simp; omega) ?_; intro v' w1' hown' hgrow hnil; obtain ⟨g', cap', rfl⟩ := ownsRow_succ hown')
      have hB2 : Below (w.heap.size + 3) W0 w1' := (hB.alloc (by omega) _).grown hgrow (by simp; omega) (fun i e => by
        rcases hrow.2 with ⟨rfl, _⟩ | ⟨g, cap, cur, rfl, hb, _, _⟩
        · cases e
        · cases e; exact hb)
      go_roundw
      case rel => exact ⟨k + 1, by omega, by omega, by go_num, by rw [hsn.out]; exact hown', hB2⟩
      case measure => simp [intOf]; omega
    · have r0 := tR.cell 0 rfl
      have r1 := tR.cell 1 rfl
      have r2 := tR.cell 2 rfl
      have r3 := tR.cell 3 rfl
      have z0 := tZ.cell 0 rfl
      have z1 := tZ.cell 1 rfl
      have z2 := tZ.cell 2 rfl
      have z3 := tZ.cell 3 rfl
      have f0 := tZ.frozen 0
      have f1 := tZ.frozen 1
      have f2 := tZ.frozen 2
      have f3 := tZ.frozen 3
      have htk : ds.take k = ds.take 12 := by
        rcases Nat.lt_or_ge k ds.length with h1 | h1
        · rw [show k = 12 by omega]
        · rw [List.take_of_length_le h1, List.take_of_length_le (by omega)]
      have hkl : k = (ds.take 12).length := by rw [← htk]; simp; omega
      obtain ⟨Wf, hWf⟩ : ∃ Wf, (((wr.setCell ⟨w.heap.size + 1, 0, none⟩ (.int .i64 pc)).setCell ⟨w.heap.size + 1, 1, none⟩ (.int .i64 (pl % (pc + 1)))).setCell ⟨w.heap.size + 1, 2, none⟩ (.int .i64 ps)).setCell ⟨w.heap.size + 1, 3, none⟩ (.int .i64 (pq % (pc + 1))) = Wf := ⟨_, rfl⟩
      have hrow2 := ownsRow_setCell_below (ownsRow_setCell_below (ownsRow_setCell_below (ownsRow_setCell_below hrow (a := ⟨w.heap.size + 1, 0, none⟩) (by simp) (.int .i64 pc)) (a := ⟨w.heap.size + 1, 1, none⟩) (by simp) (.int .i64 (pl % (pc + 1)))) (a := ⟨w.heap.size + 1, 2, none⟩) (by simp) (.int .i64 ps)) (a := ⟨w.heap.size + 1, 3, none⟩) (by simp) (.int .i64 (pq % (pc + 1)))
      have tF : BoxC Wf (w.heap.size + 1) 28 #[.int .i64 pc, .int .i64 (pl % (pc + 1)), .int .i64 ps, .int .i64 (pq % (pc + 1))] := by
        rw [← hWf]; exact (((tZ.set 0 _).set 1 _).set 2 _).set 3 _
      have hBf : Below w.heap.size w Wf := by
        rw [← hWf]
        exact ((((hb3.trans (hB.mono (by omega))).setCell (p := ⟨w.heap.size + 1, 0, none⟩) (by simp) _).setCell (p := ⟨w.heap.size + 1, 1, none⟩) (by simp) _).setCell (p := ⟨w.heap.size + 1, 2, none⟩) (by simp) _).setCell (p := ⟨w.heap.size + 1, 3, none⟩) (by simp) _
      have hsl : IntSl Wf u6 (ds.take 12) := by
        rw [hWf] at hrow2
        rw [htk] at hrow2
        have h2 : Wf.ownsRow (w.heap.size + 3) 3 1 u6 (ds.take 12).length ((ds.take 12).map (Value.int .i64)) := by rw [← hkl]; exact hrow2
        exact IntSl.of_owns h2
      have e0 := tF.cell 0 rfl
      have e1 := tF.cell 1 rfl
      have e2 := tF.cell 2 rfl
      have e3 := tF.cell 3 rfl
      have hsl := Lib.hid hsl
      have hWf2 := Lib.hid hWf
      clear hWf hrow2 hrow hkl htk
      by_cases hlt2 : k < ds.length
      all_goals
        first | have hlt3 : 12 ≤ k := by omega
              | have hlt3 : ds.length ≤ k := by omega
        go_wp2
        rw [hWf2.out]
        refine bodyPost_ret (v := .tuple #[rV pc (pl % (pc + 1)) ps (pq % (pc + 1)), u6]) (by simp [results, Try.results13, go_sem, e0, e1, e2, e3]) rfl ⟨u6, hsl.out, rfl, hBf⟩
end Go.Proofs.Ytbflocamicebhaa
