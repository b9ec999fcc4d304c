/- The contracts of checkAll, First and Run. Conditions: lists of at most 2^62 elements. -/
import Derived.Test.YtfefocgekmeahaaW12
namespace Go.Proofs.Ytfefocgekmeahaa
open Go.RowKit Go.Shelf
attribute [local go_sem] Oper.semAt_some

def caB (ns : List Nd) (dss : List (List Int)) (k : Nat) (_ : Unit) : Int ⊕ Unit := if deF ns (nths dss k) ≠ 0 then .inl (deF ns (nths dss k)) else .inr ()
/-- the first error of demands -/
def caS (ns : List Nd) (dss : List (List Int)) (k : Nat) : Int := scan dss.length (caB ns dss) (fun _ => 0) k ()
section
variable {ns : List Nd} {dss : List (List Int)} {k : Nat}
theorem caS_bad (h : k < dss.length) (h1 : deF ns (nths dss k) ≠ 0) : caS ns dss k = deF ns (nths dss k) := scan_inl h (by unfold caB; rw [if_pos h1])
theorem caS_next (h : k < dss.length) (h1 : deF ns (nths dss k) = 0) : caS ns dss k = caS ns dss (k + 1) := scan_inr h (by unfold caB; rw [if_neg (by simpa using h1)])
theorem caS_end (h : dss.length ≤ k) : caS ns dss k = 0 := scan_ge h
theorem caS_step (h : k < dss.length) (h0 : caS ns dss k = 0) : deF ns (nths dss k) = 0 ∧ caS ns dss (k + 1) = 0 := by
  by_cases h1 : deF ns (nths dss k) = 0
  · exact ⟨h1, by rw [← caS_next h h1]; exact h0⟩
  · rw [caS_bad h h1] at h0; exact absurd h0 h1
theorem caS_all (h0 : caS ns dss 0 = 0) : ∀ k, k ≤ dss.length → caS ns dss k = 0
  | 0, _ => h0
  | k + 1, h => (caS_step (by omega) (caS_all h0 k (by omega))).2
end
theorem dssOk_of {ns : List Nd} {dss : List (List Int)} (h : caS ns dss 0 = 0) : DssOk ns dss := fun k hk => dmOk_of (caS_step hk (caS_all h k (by omega))).1
/-- the error of a plant and some demands -/
def caF (sup : Int) (ns : List Nd) (dss : List (List Int)) : Int := if ckF sup ns ≠ 0 then ckF sup ns else if 1000 < dss.length then 4 else caS ns dss 0
theorem caF_ok {sup : Int} {ns : List Nd} {dss : List (List Int)} (h : caF sup ns dss = 0) : (0 ≤ sup ∧ sup ≤ 1000000000) ∧ PlOk ns ∧ dss.length ≤ 1000 ∧ DssOk ns dss := by
  unfold caF at h
  split at h
  · rename_i h1; exact absurd h h1
  · rename_i h1
    obtain ⟨h2, h3⟩ := plOk_of (by simpa using h1)
    split at h
    · cases h
    · exact ⟨h2, h3, by omega, dssOk_of h⟩
/-- lists that fit into memory -/
structure DssFit (ns : List Nd) (dss : List (List Int)) : Prop where
  n : ns.length ≤ 4611686018427387904
  l : dss.length ≤ 4611686018427387904
  r : ∀ k, (nths dss k).length ≤ 4611686018427387904

theorem neq_of {d : Int} (h : d ≠ 0) : (d == 0) = false ∧ (d != 0) = true := by simp [h]

set_option maxHeartbeats 4000000 in
theorem checkAll_any (sup : Int) (v : Value) (ns : List Nd) (u : Value) (dss : List (List Int)) (w : World) (hv : NdSl w v ns) (hu : SlSl w u dss) (hf : DssFit ns dss) :
    Calls Try.prog 37 #[plV sup v, u] w (IntBelow (caF sup ns dss) w) := by
  have hB := (Below.refl w.heap.size w).alloc (Nat.le_refl _) (.cells #[.int .i64 sup, v] 24)
  have bP := BoxC.new w 24 #[.int .i64 sup, v]
  have hv1 := hv.mono hB
  have hu1 := hu.mono hB
  have hfn := hf.n
  have hfl := hf.l
  obtain ⟨av, cv, rfl⟩ := hv.len
  obtain ⟨au, cu, rfl⟩ := hu.len
  clear hv hu
  obtain ⟨F, hF⟩ : ∃ F, caF sup ns dss = F := ⟨_, rfl⟩
  rw [hF]
  unfold caF at hF
  have hck := Check_any sup _ ns _ hv1 (by omega)
  obtain ⟨d, hd⟩ : ∃ d, ckF sup ns = d := ⟨_, rfl⟩
  rw [hd] at hF hck
  replace hck := Lib.hid hck
  by_cases h0 : d = 0
  · subst h0
    rw [if_neg (by simp)] at hF
    by_cases h1 : 1000 < dss.length
    · rw [if_pos h1] at hF
      replace hF := Lib.hid hF
      go_enter Try.func37, Try.ntmps37
      go_wp2_with fail
      refine hck.out.mono ?_
      rintro e w1 ⟨rfl, hb⟩
      go_wp2
      go_ret
      exact ⟨ret_int hF.out, hB.trans (hb.mono hB.size)⟩
    · rw [if_neg h1] at hF
      replace hF := Lib.hid hF
      go_enter Try.func37, Try.ntmps37
      go_wp2_with fail
      refine hck.out.mono ?_
      rintro e w1 ⟨rfl, hb⟩
      have hB1 := hB.trans (hb.mono hB.size)
      replace bP := bP.grown hb
      replace hv1 := hv1.mono hb
      replace hu1 := hu1.mono hb
      clear hck hb hB
      go_wp2
      go_loopw [19] (fun i wr => ∃ k : Nat, k ≤ dss.length ∧ i = .int .i64 k ∧ Hid (caS ns dss k = F) ∧ Below w1.heap.size w1 wr) (fun i _ => dss.length - (intOf i).toNat)
      case atStart => exact ⟨0, Nat.zero_le _, rfl, hF, Below.refl _ _⟩
      case round =>
        obtain ⟨k, hk, rfl, hFk, hBr⟩ := hrel
        by_cases hlt : k < dss.length
        · obtain ⟨b, off, cap', he, _, hc⟩ := (hu1.mono hBr).at hlt
          cases he
          obtain ⟨x, cx, hx⟩ := hc k hlt
          have hxl := hf.r k
          have bPr := bP.grown hBr
          have c0 := bPr.cell 0 rfl
          have c1 := bPr.cell 1 rfl
          have hcd := checkDemand_any sup _ ns x (nths dss k) wr (hv1.mono hBr) hx hxl
          obtain ⟨ax, cpx, rfl⟩ := hx.len
          have L1 := @caS_bad ns dss k hlt
          have L2 := @caS_next ns dss k hlt
          have hki : (k : Int) < (dss.length : Int) := by omega
          clear hc hx
          generalize deF ns (nths dss k) = d at hcd L1 L2
          replace hcd := Lib.hid hcd
          by_cases hd0 : d = 0
          · replace L2 := Lib.hid (L2 hd0)
            subst hd0
            clear L1
            go_wp2_with fail
            refine hcd.out.mono ?_
            rintro e w2 ⟨rfl, hb2⟩
            clear c0 c1 cx
            go_wp2
            go_roundw
            case rel => exact ⟨k + 1, by omega, by go_num, L2.out.symm.trans hFk.out, hBr.trans (hb2.mono hBr.size)⟩
            case measure => simp [intOf]; omega
          · replace L1 := Lib.hid (L1 hd0)
            obtain ⟨g1, g2⟩ := neq_of hd0
            clear L2 hd0
            go_wp2_with fail
            refine hcd.out.mono ?_
            rintro e w2 ⟨rfl, hb2⟩
            clear c0 c1 cx
            go_wp2
            go_ret
            exact ⟨ret_int (L1.out.symm.trans hFk.out), hB1.trans ((hBr.trans (hb2.mono hBr.size)).mono hB1.size)⟩
        · have hen := Lib.hid (caS_end (ns := ns) (dss := dss) (k := k) (by omega))
          go_wp2
          go_ret
          exact ⟨ret_int (hen.out.symm.trans hFk.out), hB1.trans (hBr.mono hB1.size)⟩
  · obtain ⟨g1, g2⟩ := neq_of h0
    rw [if_pos h0] at hF
    subst hF
    clear hd h0
    go_enter Try.func37, Try.ntmps37
    go_wp2_with fail
    refine hck.out.mono ?_
    rintro e w1 ⟨rfl, hb⟩
    go_wp2
    go_ret
    exact ⟨rfl, hB.trans (hb.mono hB.size)⟩

/-- what First returns -/
def FirstF (sup : Int) (ns : List Nd) (dss : List (List Int)) : Int × Int × Bool × Int := if caF sup ns dss ≠ 0 then (0, 0, false, caF sup ns dss) else ((lkS ns sup dss 0).1, (lkS ns sup dss 0).2.1, (lkS ns sup dss 0).2.2, 0)
def FirstPost (F : Int × Int × Bool × Int) (w : World) (e : Ending) (w' : World) : Prop := e = .returned (.tuple #[.int .i64 F.1, .int .i64 F.2.1, .bool F.2.2.1, .int .i64 F.2.2.2]) ∧ Below w.heap.size w w'
set_option maxHeartbeats 4000000 in
theorem First_any (sup : Int) (v : Value) (ns : List Nd) (u : Value) (dss : List (List Int)) (w : World) (hv : NdSl w v ns) (hu : SlSl w u dss) (hf : DssFit ns dss) :
    Calls Try.prog 21 #[plV sup v, u] w (FirstPost (FirstF sup ns dss) w) := by
  have hB := (Below.refl w.heap.size w).alloc (Nat.le_refl _) (.cells #[.int .i64 sup, v] 24)
  have bP := BoxC.new w 24 #[.int .i64 sup, v]
  have hv1 := hv.mono hB
  have hu1 := hu.mono hB
  obtain ⟨av, cv, rfl⟩ := hv.len
  obtain ⟨au, cu, rfl⟩ := hu.len
  clear hv hu
  obtain ⟨F, hF⟩ : ∃ F, FirstF sup ns dss = F := ⟨_, rfl⟩
  rw [hF]
  unfold FirstF at hF
  have hck := checkAll_any sup _ ns _ dss _ hv1 hu1 hf
  obtain ⟨d, hd⟩ : ∃ d, caF sup ns dss = d := ⟨_, rfl⟩
  rw [hd] at hF hck
  replace hck := Lib.hid hck
  by_cases h0 : d = 0
  · subst h0
    rw [if_neg (by simp)] at hF
    obtain ⟨⟨h1, h2⟩, hp, hdl, hds⟩ := caF_ok hd
    have hlk := fun W (a1 : NdSl W (.slice av ns.length cv) ns) (a2 : SlSl W (.slice au dss.length cu) dss) => lacks_any sup _ ns _ dss W a1 a2 hp h1 h2 hds hdl
    generalize lkS ns sup dss 0 = L at hlk hF
    obtain ⟨l1, l2, l3⟩ := L
    simp only at hF
    subst hF
    clear hd
    go_enter Try.func21, Try.ntmps21
    go_wp2_with fail
    refine hck.out.mono ?_
    rintro e w1 ⟨rfl, hb⟩
    have c0 := (bP.grown hb).cell 0 rfl
    have c1 := (bP.grown hb).cell 1 rfl
    have hlk1 := Lib.hid (hlk w1 (hv1.mono hb) (hu1.mono hb))
    clear hlk hck
    go_wp2_with fail
    refine hlk1.out.mono ?_
    rintro e w2 ⟨rfl, hb2⟩
    clear c0 c1
    go_wp2
    exact bodyPost_ret (v := .tuple #[.int .i64 l1, .int .i64 l2, .bool l3, .int .i64 0]) (by simp [results, Try.results21, go_sem]) rfl ⟨rfl, hB.trans ((hb.trans (hb2.mono hb.size)).mono hB.size)⟩
  · obtain ⟨g1, g2⟩ := neq_of h0
    rw [if_pos h0] at hF
    subst hF
    clear hd h0
    go_enter Try.func21, Try.ntmps21
    go_wp2_with fail
    refine hck.out.mono ?_
    rintro e w1 ⟨rfl, hb⟩
    go_wp2
    exact bodyPost_ret (v := .tuple #[.int .i64 0, .int .i64 0, .bool false, .int .i64 d]) (by simp [results, Try.results21, go_sem]) rfl ⟨rfl, hB.trans (hb.mono hB.size)⟩
end Go.Proofs.Ytfefocgekmeahaa
