/- The contract of the model's limit. Conditions: at most 1000 nodes. -/
import Derived.Test.YtfefocgekmeahaaW21
namespace Go.Proofs.Ytfefocgekmeahaa
open Go.RowKit Go.Shelf

theorem ret_pair {F : Int × Bool} {a : Int} {b : Bool} (h : (a, b) = F) : Ending.returned (.tuple #[.int .i64 a, .bool b]) = .returned (.tuple #[.int .i64 F.1, .bool F.2]) := by rw [← h]

set_option maxRecDepth 100000 in
set_option maxHeartbeats 4000000 in
theorem limit_any (sup : Int) (v : Value) (ns : List Nd) (y : Value) (us : List Int) (al : Int) (w : World) (hv : NdSl w v ns) (hy : NumSl .i64 w y (catL (us, al))) (hul : us.length = ns.length) (hn : ns.length ≤ 1000) :
    Calls Try.prog 27 #[plV sup v, y] w (BotPost (limS ns sup us al 0) w) := by
  have hcl := catL_len (s := (us, al)) hul
  obtain ⟨av, cv, rfl⟩ := hv.len
  obtain ⟨ay, cy, hy0⟩ := hy.len
  rw [hcl] at hy0
  subst hy0
  obtain ⟨F, hF⟩ : ∃ F, limS ns sup us al 0 = F := ⟨_, rfl⟩
  rw [hF]
  replace hF := Lib.hid hF
  have hB := (Below.refl w.heap.size w).alloc (Nat.le_refl _) (.cells #[.int .i64 sup, .slice av ns.length cv] 24)
  have bP := BoxC.new w 24 #[.int .i64 sup, .slice av ns.length cv]
  have hv1 := hv.mono hB
  have hy1 := hy.mono hB
  have hat := fun (i : Nat) (h : i < ns.length) => catL_at (s := (us, al)) hul h
  have hen := catL_end (s := (us, al)) hul
  replace hat := Lib.hid hat
  replace hen := Lib.hid hen
  replace hul := Lib.hid hul
  replace hcl := Lib.hid hcl
  clear hv hy
  go_enter Try.func27, Try.ntmps27
  go_wp2
  go_loopw [6] (fun q W => ∃ i : Nat, i ≤ ns.length ∧ q = .int .i64 i ∧ Hid (limS ns sup us al i = F) ∧ Below (w.alloc (.cells #[.int .i64 sup, .slice av ns.length cv] 24)).heap.size (w.alloc (.cells #[.int .i64 sup, .slice av ns.length cv] 24)) W) (fun q _ => ns.length - (intOf q).toNat)
  case atStart => exact ⟨0, Nat.zero_le _, rfl, hF, Below.refl _ _⟩
  case round =>
    clear hF
    obtain ⟨i, hi, rfl, hF, hY⟩ := hrel
    have bY := bP.grown hY
    have c0 := bY.cell 0 rfl
    have c1 := bY.cell 1 rfl
    have hBY := hB.trans (hY.mono hB.size)
    by_cases hlt : i < ns.length
    · obtain ⟨bv, ov, cpv, hev, hcv⟩ := (hv1.mono hY).at hlt
      cases hev
      obtain ⟨n1, n2, n3, n4⟩ := hcv i hlt
      obtain ⟨b2, o2, cp2, he2, hc2⟩ := (hy1.mono hY).atN hcl.out (show i < ns.length + 1 by omega)
      cases he2
      have cu := hc2 i (by omega)
      rw [hat.out i hlt] at cu
      clear hcv hc2
      have hii : (i : Int) < (ns.length : Int) := by omega
      have hii2 : (i : Int) < (ns.length : Int) + 1 := by omega
      have L1 := @limS_hit ns sup us al i hlt
      have L2 := @limS_next ns sup us al i hlt
      by_cases h0 : (nd ns i).m < nth us i
      · replace L1 := Lib.hid ((L1 h0).symm.trans hF.out)
        clear L2 hF
        go_wp2_with fail
        go_quiet (fail)
        go_wp2
        exact bodyPost_ret (v := .tuple #[.int .i64 i, .bool true]) (by simp [results, Try.results27, go_sem]) rfl ⟨ret_pair L1.out, below_drewN hBY _⟩
      · replace L2 := Lib.hid ((L2 h0).symm.trans hF.out)
        have h0' : ¬ nth us i > (nd ns i).m := h0
        clear L1 hF
        go_wp2_with fail
        go_quiet (fail)
        go_wp2
        go_roundw
        case rel => exact ⟨i + 1, by omega, by go_num, L2, below_drewN hY _⟩
        case measure => simp [intOf]; omega
    · obtain rfl : i = ns.length := by omega
      obtain ⟨b2, o2, cp2, he2, hc2⟩ := (hy1.mono hY).atN hcl.out (show ns.length < ns.length + 1 by omega)
      cases he2
      have cu := hc2 ns.length (by omega)
      rw [hen.out] at cu
      clear hc2
      by_cases h0 : sup < al
      · have L := Lib.hid ((limS_over (ns := ns) (cs := us) (Nat.le_refl _) h0).symm.trans hF.out)
        go_wp2_with fail
        go_quiet (fail)
        go_wp2
        exact bodyPost_ret (v := .tuple #[.int .i64 (-1), .bool true]) (by simp [results, Try.results27, go_sem]) rfl ⟨ret_pair L.out, below_drewN hBY _⟩
      · have L := Lib.hid ((limS_ok (ns := ns) (cs := us) (Nat.le_refl _) h0).symm.trans hF.out)
        have h0' : ¬ al > sup := h0
        go_wp2_with fail
        go_quiet (fail)
        go_wp2
        exact bodyPost_ret (v := .tuple #[.int .i64 0, .bool false]) (by simp [results, Try.results27, go_sem]) rfl ⟨ret_pair L.out, below_drewN hBY _⟩
end Go.Proofs.Ytfefocgekmeahaa
