/- The contract of the model's refused. Conditions: lists that fit. -/
import Derived.Test.YtfefocgekmeahaaW24
namespace Go.Proofs.Ytfefocgekmeahaa
open Go.RowKit Go.Shelf

set_option maxRecDepth 100000 in
set_option maxHeartbeats 4000000 in
theorem refused_any (sup : Int) (v : Value) (ns : List Nd) (u : Value) (dss : List (List Int)) (w : World) (hv : NdSl w v ns) (hu : SlSl w u dss) (hf : DssFit ns dss) :
    Calls Try.prog 15 #[plV sup v, u] w (IntBelow (caS ns dss 0) w) := by
  have hB := (Below.refl w.heap.size w).alloc (Nat.le_refl _) (.cells #[.int .i64 sup, v] 24)
  have bP := BoxC.new w 24 #[.int .i64 sup, v]
  have hv1 := hv.mono hB
  have hu1 := hu.mono hB
  have hfl := hf.l
  obtain ⟨av, cv, rfl⟩ := hv.len
  obtain ⟨au, cu, rfl⟩ := hu.len
  obtain ⟨F, hF⟩ : ∃ F, caS ns dss 0 = F := ⟨_, rfl⟩
  rw [hF]
  replace hF := Lib.hid hF
  clear hv hu
  go_enter Try.func15, Try.ntmps15
  go_wp2
  generalize w.alloc (.cells #[.int .i64 sup, .slice av ns.length cv] 24) = W0 at hB bP hv1 hu1 ⊢
  go_loopw [5] (fun q W => ∃ k : Nat, k ≤ dss.length ∧ q = .int .i64 k ∧ Hid (caS ns dss k = F) ∧ Below W0.heap.size W0 W) (fun q _ => dss.length - (intOf q).toNat)
  case atStart => exact ⟨0, Nat.zero_le _, rfl, hF, Below.refl _ _⟩
  case round =>
    clear hF
    obtain ⟨k, hk, rfl, hF, hY⟩ := hrel
    by_cases hlt : k < dss.length
    · have hdr := (Below.refl wr.heap.size wr).drew
      have hYd := hY.trans (hdr.mono hY.size)
      have bX := bP.grown hYd
      obtain ⟨b, off, cap', he, hbl, hc⟩ := (hu1.mono hYd).at hlt
      cases he
      obtain ⟨x, cx, hx⟩ := hc k hlt
      clear hc
      have hki : (k : Int) < (dss.length : Int) := by omega
      have q0 : wr.drew.cell? ⟨w.heap.size, 0, none⟩ = some (.int .i64 sup) := bX.cell 0 rfl
      have q1 : wr.drew.cell? ⟨w.heap.size, 1, none⟩ = some (.slice av ns.length cv) := bX.cell 1 rfl
      have hdd := demanded_any sup _ ns x (nths dss k) wr.drew (hv1.mono hYd) hx (hf.r k)
      have L1 := @caS_bad ns dss k hlt
      have L2 := @caS_next ns dss k hlt
      generalize deF ns (nths dss k) = d at hdd L1 L2
      replace hdd := Lib.hid hdd
      clear hx
      replace L1 := Lib.hid L1
      replace L2 := Lib.hid L2
      go_wp2_with fail
      go_region_held3 (fun Y => Y.cell? ⟨w.heap.size, 0, none⟩ = some (.int .i64 sup) ∧ Y.cell? ⟨w.heap.size, 1, none⟩ = some (.slice av ns.length cv) ∧ Y.cell? ⟨b, off + k, none⟩ = some x) (first | exact ⟨q0, q1, cx⟩ | exact ⟨r0, r1, rx⟩)
        (first | (go_at_call 26; refine hdd.out.mono ?_; rintro e wq ⟨rfl, hbq⟩; have bZ := bX.grown hbq; have r0 : wq.cell? ⟨w.heap.size, 0, none⟩ = some (.int .i64 sup) := bZ.cell 0 rfl; have r1 : wq.cell? ⟨w.heap.size, 1, none⟩ = some (.slice av ns.length cv) := bZ.cell 1 rfl; have rx := (hbq.cell (p := ⟨b, off + k, none⟩) hbl).trans cx))
      have hZ := hYd.trans (hbq.mono hYd.size)
      clear q0 q1 cx r0 r1 rx
      by_cases h0 : d = 0
      · subst h0
        replace L2 := Lib.hid ((L2.out rfl).symm.trans hF.out)
        clear L1 hF
        go_wp2
        go_roundw
        case rel => exact ⟨k + 1, by omega, by go_num, L2, hZ⟩
        case measure => simp [intOf]; omega
      · obtain ⟨g1, g2⟩ := neq_of h0
        replace L1 := Lib.hid ((L1.out h0).symm.trans hF.out)
        clear L2 hF
        go_wp2
        go_ret
        exact ⟨ret_int L1.out, hB.trans (hZ.mono hB.size)⟩
    · obtain rfl : k = dss.length := by omega
      have L := Lib.hid ((caS_end (ns := ns) (dss := dss) (Nat.le_refl _)).symm.trans hF.out)
      clear hF
      go_wp2
      go_ret
      exact ⟨ret_int L.out, hB.trans (hY.mono hB.size)⟩
end Go.Proofs.Ytfefocgekmeahaa
