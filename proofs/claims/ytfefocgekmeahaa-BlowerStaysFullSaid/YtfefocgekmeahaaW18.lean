/- The contracts of Steady and Bottleneck. Conditions: a demand of at most 2^62 elements. -/
import Derived.Test.YtfefocgekmeahaaW17
namespace Go.Proofs.Ytfefocgekmeahaa
open Go.RowKit Go.Shelf

/-- the error of a plant and a demand -/
def sdF (sup : Int) (ns : List Nd) (dm : List Int) : Int := if ckF sup ns ≠ 0 then ckF sup ns else deF ns dm

/-- the two variables of Steady lie as they lay -/
def SteadyJ (w : World) (BP BD : Nat) (sup : Int) (v x : Value) (W : World) : Prop := BoxC W BP 24 #[.int .i64 sup, v] ∧ BoxC W BD 39 #[x] ∧ Below w.heap.size w W

set_option maxHeartbeats 2000000 in
theorem steady1_any (w : World) (BP BD : Nat) (sup : Int) (v x : Value) (ns : List Nd) (dm : List Int) (hv : NdSl w v ns) (hx : NumSl .i64 w x dm) (hp : PlOk ns) (hd : DmOk ns dm) (k : Nat) (W : World) (hk : k < 1000) (hJ : SteadyJ w BP BD sup v x W) :
    Calls Try.prog 44 (#[.int .i64 k] ++ #[.pointer (some ⟨BP, 0, none⟩), .pointer (some ⟨BD, 0, none⟩)]) W (fun e W' => e = .returned (.bool (btF ns sup dm ((k : Int) + 1)).2) ∧ SteadyJ w BP BD sup v x W') := by
  obtain ⟨bP, bD, hB⟩ := hJ
  have hbt := bottleneck_any sup v ns x dm ((k : Int) + 1) W (hv.mono hB) (hx.mono hB) hp hd (by omega) (by omega)
  have d0 := bP.cell 0 rfl
  have d1 := bP.cell 1 rfl
  have d2 := bD.cell 0 rfl
  obtain ⟨F, hF⟩ : ∃ F, btF ns sup dm ((k : Int) + 1) = F := ⟨_, rfl⟩
  rw [hF] at hbt ⊢
  replace hbt := Lib.hid hbt
  clear hF hx hv
  simp only [List.append_toArray, List.cons_append, List.nil_append]
  go_enter Try.func44, Try.ntmps44
  go_wp2_with fail
  refine hbt.out.mono ?_
  rintro e W' ⟨rfl, hb⟩
  clear d0 d1 d2
  go_wp2
  go_ret
  exact ⟨rfl, bP.grown hb, bD.grown hb, hB.trans (hb.mono hB.size)⟩

def SteadyPost (sup : Int) (ns : List Nd) (dm : List Int) (w : World) (e : Ending) (w' : World) : Prop :=
  Below w.heap.size w w' ∧ (sdF sup ns dm ≠ 0 → e = .returned (.tuple #[.int .i64 0, .int .i64 (sdF sup ns dm)])) ∧
    (sdF sup ns dm = 0 → ∃ k : Nat, k ≤ 1000 ∧ (∀ j : Nat, j + 1 = k → (btF ns sup dm ((j : Int) + 1)).2 = false) ∧ (k < 1000 → (btF ns sup dm ((k : Int) + 1)).2 = true) ∧ e = .returned (.tuple #[.int .i64 k, .int .i64 0]))
def BnPost (sup : Int) (ns : List Nd) (dm : List Int) (w : World) (e : Ending) (w' : World) : Prop :=
  Below w.heap.size w w' ∧ (sdF sup ns dm ≠ 0 → e = .returned (.tuple #[.int .i64 0, .bool false, .int .i64 (sdF sup ns dm)])) ∧
    (sdF sup ns dm = 0 → e = .returned (.tuple #[.int .i64 (btF ns sup dm 1000).1, .bool (btF ns sup dm 1000).2, .int .i64 0]))

set_option maxRecDepth 100000 in
set_option maxHeartbeats 4000000 in
theorem Steady_any (sup : Int) (v : Value) (ns : List Nd) (x : Value) (dm : List Int) (w : World) (hv : NdSl w v ns) (hx : NumSl .i64 w x dm) (hm : ns.length ≤ 9223372036854775807) (hm2 : dm.length ≤ 4611686018427387904) :
    Calls Try.prog 24 #[plV sup v, x] w (SteadyPost sup ns dm w) := by
  have hB := ((Below.refl w.heap.size w).alloc (Nat.le_refl _) (.cells #[.int .i64 sup, v] 24)).alloc (by simp) (.cells #[x] 39)
  have bP := (BoxC.new w 24 #[.int .i64 sup, v]).alloc (.cells #[x] 39)
  have bD := BoxC.new (w.alloc (.cells #[.int .i64 sup, v] 24)) 39 #[x]
  rw [World.size_alloc] at bD
  have hck := Check_any sup v ns _ (hv.mono hB) hm
  have hcd := fun W (hb : Below w.heap.size w W) => checkDemand_any sup v ns x dm W (hv.mono hb) (hx.mono hb) hm2
  have hsr := fun (hp : PlOk ns) (hd : DmOk ns dm) (W : World) (hJ : SteadyJ w w.heap.size (w.heap.size + 1) sup v x W) =>
    search_any 44 #[.pointer (some ⟨w.heap.size, 0, none⟩), .pointer (some ⟨w.heap.size + 1, 0, none⟩)] (SteadyJ w w.heap.size (w.heap.size + 1) sup v x) (fun k => (btF ns sup dm ((k : Int) + 1)).2) 1000 W (by omega) hJ
      (fun k W' hk hJ' => steady1_any w _ _ sup v x ns dm hv hx hp hd k W' hk hJ') (enters_of Try.func44 (by kernel_rfl) rfl)
  obtain ⟨av, cv, rfl⟩ := hv.len
  obtain ⟨ax, cx, rfl⟩ := hx.len
  clear hv hx
  unfold SteadyPost sdF
  have hpl := fun h => (plOk_of (sup := sup) (ns := ns) h).2
  generalize ckF sup ns = d at hck hpl
  have hdl := dmOk_of (ns := ns) (d := dm)
  generalize deF ns dm = d2 at hcd hdl
  replace hck := Lib.hid hck
  replace hcd := Lib.hid hcd
  by_cases h0 : d = 0
  · subst h0
    replace hsr := hsr (hpl rfl)
    clear hpl
    have q0 : ¬ ((0 : Int) ≠ 0) := fun h => h rfl
    rw [if_neg q0]
    by_cases h2 : d2 = 0
    · subst h2
      replace hsr := Lib.hid (hsr (hdl rfl))
      clear hdl
      go_enter Try.func24, Try.ntmps24
      go_wp2_with fail
      refine hck.out.mono ?_
      rintro e w1 ⟨rfl, hb⟩
      have bP1 := bP.grown hb
      have bD1 := bD.grown hb
      have hB1 := hB.trans (hb.mono hB.size)
      have c0 := bP1.cell 0 rfl
      have c1 := bP1.cell 1 rfl
      have c2 := bD1.cell 0 rfl
      have hcd1 := Lib.hid (hcd.out w1 hB1)
      clear hck hcd
      go_wp2_with fail
      refine hcd1.out.mono ?_
      rintro e w2 ⟨rfl, hb2⟩
      clear c0 c1 c2 hcd1
      go_wp2_with fail
      refine (hsr.out w2 ⟨bP1.grown hb2, bD1.grown hb2, hB1.trans (hb2.mono hB1.size)⟩).mono ?_
      rintro e w3 ⟨k, hk, rfl, h1, h2, _, _, hB2⟩
      clear hsr
      replace h1 := Lib.hid h1
      replace h2 := Lib.hid h2
      go_wp2
      exact bodyPost_ret (v := .tuple #[.int .i64 k, .int .i64 0]) (by simp [results, Try.results24, go_sem]) rfl ⟨hB2, fun h => absurd rfl h, fun _ => ⟨k, hk, h1.out, h2.out, rfl⟩⟩
    · obtain ⟨g1, g2⟩ := neq_of h2
      clear hsr hdl
      go_enter Try.func24, Try.ntmps24
      go_wp2_with fail
      refine hck.out.mono ?_
      rintro e w1 ⟨rfl, hb⟩
      have bP1 := bP.grown hb
      have bD1 := bD.grown hb
      have hB1 := hB.trans (hb.mono hB.size)
      have c0 := bP1.cell 0 rfl
      have c1 := bP1.cell 1 rfl
      have c2 := bD1.cell 0 rfl
      have hcd1 := Lib.hid (hcd.out w1 hB1)
      clear hck hcd
      go_wp2_with fail
      refine hcd1.out.mono ?_
      rintro e w2 ⟨rfl, hb2⟩
      clear c0 c1 c2 hcd1
      go_wp2
      exact bodyPost_ret (v := .tuple #[.int .i64 0, .int .i64 d2]) (by simp [results, Try.results24, go_sem]) rfl ⟨hB1.trans (hb2.mono hB1.size), fun _ => rfl, fun h => absurd h h2⟩
  · obtain ⟨g1, g2⟩ := neq_of h0
    rw [if_pos h0]
    clear hsr hpl hdl hcd
    go_enter Try.func24, Try.ntmps24
    go_wp2_with fail
    refine hck.out.mono ?_
    rintro e w1 ⟨rfl, hb⟩
    go_wp2
    exact bodyPost_ret (v := .tuple #[.int .i64 0, .int .i64 d]) (by simp [results, Try.results24, go_sem]) rfl ⟨hB.trans (hb.mono hB.size), fun _ => rfl, fun h => absurd h h0⟩

set_option maxRecDepth 100000 in
set_option maxHeartbeats 4000000 in
theorem Bottleneck_any (sup : Int) (v : Value) (ns : List Nd) (x : Value) (dm : List Int) (w : World) (hv : NdSl w v ns) (hx : NumSl .i64 w x dm) (hm : ns.length ≤ 9223372036854775807) (hm2 : dm.length ≤ 4611686018427387904) :
    Calls Try.prog 25 #[plV sup v, x] w (BnPost sup ns dm w) := by
  have hB := (Below.refl w.heap.size w).alloc (Nat.le_refl _) (.cells #[.int .i64 sup, v] 24)
  have bP := BoxC.new w 24 #[.int .i64 sup, v]
  have hck := Check_any sup v ns _ (hv.mono hB) hm
  have hcd := fun W (hb : Below w.heap.size w W) => checkDemand_any sup v ns x dm W (hv.mono hb) (hx.mono hb) hm2
  have hbt := fun (hp : PlOk ns) (hd : DmOk ns dm) W (hb : Below w.heap.size w W) => bottleneck_any sup v ns x dm 1000 W (hv.mono hb) (hx.mono hb) hp hd (by omega) (by omega)
  obtain ⟨av, cv, rfl⟩ := hv.len
  obtain ⟨ax, cx, rfl⟩ := hx.len
  clear hv hx
  unfold BnPost sdF
  have hpl := fun h => (plOk_of (sup := sup) (ns := ns) h).2
  generalize ckF sup ns = d at hck hpl
  have hdl := dmOk_of (ns := ns) (d := dm)
  generalize deF ns dm = d2 at hcd hdl
  generalize btF ns sup dm 1000 = F at hbt
  replace hck := Lib.hid hck
  replace hcd := Lib.hid hcd
  by_cases h0 : d = 0
  · subst h0
    replace hbt := hbt (hpl rfl)
    clear hpl
    have q0 : ¬ ((0 : Int) ≠ 0) := fun h => h rfl
    rw [if_neg q0]
    by_cases h2 : d2 = 0
    · subst h2
      replace hbt := Lib.hid (hbt (hdl rfl))
      clear hdl
      go_enter Try.func25, Try.ntmps25
      go_wp2_with fail
      refine hck.out.mono ?_
      rintro e w1 ⟨rfl, hb⟩
      have bP1 := bP.grown hb
      have hB1 := hB.trans (hb.mono hB.size)
      have c0 := bP1.cell 0 rfl
      have c1 := bP1.cell 1 rfl
      have hcd1 := Lib.hid (hcd.out w1 hB1)
      clear hck hcd
      go_wp2_with fail
      refine hcd1.out.mono ?_
      rintro e w2 ⟨rfl, hb2⟩
      replace c0 := (bP1.grown hb2).cell 0 rfl
      replace c1 := (bP1.grown hb2).cell 1 rfl
      have hB2 := hB1.trans (hb2.mono hB1.size)
      have hbt1 := Lib.hid (hbt.out w2 hB2)
      clear hbt hcd1
      go_wp2_with fail
      refine hbt1.out.mono ?_
      rintro e w3 ⟨rfl, hb3⟩
      clear c0 c1 hbt1
      go_wp2
      exact bodyPost_ret (v := .tuple #[.int .i64 F.1, .bool F.2, .int .i64 0]) (by simp [results, Try.results25, go_sem]) rfl ⟨hB2.trans (hb3.mono hB2.size), fun h => absurd rfl h, fun _ => rfl⟩
    · obtain ⟨g1, g2⟩ := neq_of h2
      clear hbt hdl
      go_enter Try.func25, Try.ntmps25
      go_wp2_with fail
      refine hck.out.mono ?_
      rintro e w1 ⟨rfl, hb⟩
      have bP1 := bP.grown hb
      have hB1 := hB.trans (hb.mono hB.size)
      have c0 := bP1.cell 0 rfl
      have c1 := bP1.cell 1 rfl
      have hcd1 := Lib.hid (hcd.out w1 hB1)
      clear hck hcd
      go_wp2_with fail
      refine hcd1.out.mono ?_
      rintro e w2 ⟨rfl, hb2⟩
      clear c0 c1 hcd1
      go_wp2
      exact bodyPost_ret (v := .tuple #[.int .i64 0, .bool false, .int .i64 d2]) (by simp [results, Try.results25, go_sem]) rfl ⟨hB1.trans (hb2.mono hB1.size), fun _ => rfl, fun h => absurd h h2⟩
  · obtain ⟨g1, g2⟩ := neq_of h0
    rw [if_pos h0]
    clear hbt hpl hdl hcd
    go_enter Try.func25, Try.ntmps25
    go_wp2_with fail
    refine hck.out.mono ?_
    rintro e w1 ⟨rfl, hb⟩
    go_wp2
    exact bodyPost_ret (v := .tuple #[.int .i64 0, .bool false, .int .i64 d]) (by simp [results, Try.results25, go_sem]) rfl ⟨hB.trans (hb.mono hB.size), fun _ => rfl, fun h => absurd h h0⟩
end Go.Proofs.Ytfefocgekmeahaa
