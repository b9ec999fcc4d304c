/- The contracts of checkAll, lacks and First. Conditions: lists of at most 2^62 elements. -/
import Derived.Test.YtfefocgekmeahaaW11
namespace Go.Proofs.Ytfefocgekmeahaa
open Go.RowKit Go.Shelf
attribute [local go_sem] Oper.semAt_some

def posP (n : Int) : Bool := decide (0 < n)
set_option maxHeartbeats 400000 in
theorem pos_any (n : Int) (w : World) : Calls Try.prog 49 #[.int .i64 n] w (BoolBelow (posP n) w) := by
  go_enter Try.func49, Try.ntmps49
  go_wp2
  go_ret
  exact ⟨rfl, Below.refl _ _⟩

/-- the first node that lacks something in step k, or -1 -/
def lkI (ns : List Nd) (sup : Int) (dss : List (List Int)) (k : Nat) : Int := idxS posP (runT ns sup dss (k + 1)).lk 0
def lkB (ns : List Nd) (sup : Int) (dss : List (List Int)) (k : Nat) (_ : Unit) : (Int × Int × Bool) ⊕ Unit := if 0 ≤ lkI ns sup dss k then .inl (k, lkI ns sup dss k, true) else .inr ()
/-- the first step from k on, and the first node, that lacks something -/
def lkS (ns : List Nd) (sup : Int) (dss : List (List Int)) (k : Nat) : Int × Int × Bool := scan dss.length (lkB ns sup dss) (fun _ => (0, 0, false)) k ()
section
variable {ns : List Nd} {sup : Int} {dss : List (List Int)} {k : Nat}
theorem lkS_hit (h : k < dss.length) (h1 : 0 ≤ lkI ns sup dss k) : lkS ns sup dss k = ((k : Int), lkI ns sup dss k, true) := scan_inl h (by unfold lkB; rw [if_pos h1])
theorem lkS_next (h : k < dss.length) (h1 : ¬ 0 ≤ lkI ns sup dss k) : lkS ns sup dss k = lkS ns sup dss (k + 1) := scan_inr h (by unfold lkB; rw [if_neg h1])
theorem lkS_end (h : dss.length ≤ k) : lkS ns sup dss k = (0, 0, false) := scan_ge h
end

def LackPost (F : Int × Int × Bool) (w : World) (e : Ending) (w' : World) : Prop := e = .returned (.tuple #[.int .i64 F.1, .int .i64 F.2.1, .bool F.2.2]) ∧ Below w.heap.size w w'

set_option maxRecDepth 100000 in
set_option maxHeartbeats 4000000 in
theorem lacks_any (sup : Int) (v : Value) (ns : List Nd) (u : Value) (dss : List (List Int)) (w : World) (hv : NdSl w v ns) (hu : SlSl w u dss) (hp : PlOk ns) (hs0 : 0 ≤ sup) (hs1 : sup ≤ 1000000000) (hd : DssOk ns dss) (hdl : dss.length ≤ 1000) :
    Calls Try.prog 40 #[plV sup v, u] w (LackPost (lkS ns sup dss 0) w) := by
  obtain ⟨F, hF⟩ : ∃ F, lkS ns sup dss 0 = F := ⟨_, rfl⟩
  rw [hF]
  replace hF := Lib.hid hF
  have hn30 := hp.len
  have hb1 : Below w.heap.size w ((((w.alloc (.cells #[.int .i64 sup, v] 24)).alloc (.cells #[.int .i64 0] 3)).alloc (.cells #[.int .i64 0] 3)).alloc (.cells #[.bool false] 4)) := ((((Below.refl _ w).alloc (Nat.le_refl _) _).alloc (by simp) _).alloc (by simp; omega) _).alloc (by simp; omega) _
  have p0 := (((BoxC.new w 24 #[.int .i64 sup, v]).alloc (.cells #[.int .i64 0] 3)).alloc (.cells #[.int .i64 0] 3)).alloc (.cells #[.bool false] 4)
  have p1 := ((BoxC.new (w.alloc (.cells #[.int .i64 sup, v] 24)) 3 #[.int .i64 0]).alloc (.cells #[.int .i64 0] 3)).alloc (.cells #[.bool false] 4)
  have p2 := (BoxC.new ((w.alloc (.cells #[.int .i64 sup, v] 24)).alloc (.cells #[.int .i64 0] 3)) 3 #[.int .i64 0]).alloc (.cells #[.bool false] 4)
  have p3 := BoxC.new (((w.alloc (.cells #[.int .i64 sup, v] 24)).alloc (.cells #[.int .i64 0] 3)).alloc (.cells #[.int .i64 0] 3)) 4 #[.bool false]
  simp only [World.size_alloc] at p1 p2 p3
  have hz1 : ((((w.alloc (.cells #[.int .i64 sup, v] 24)).alloc (.cells #[.int .i64 0] 3)).alloc (.cells #[.int .i64 0] 3)).alloc (.cells #[.bool false] 4)).heap.size = w.heap.size + 4 := by simp
  obtain ⟨av, cv, rfl⟩ := hv.len
  obtain ⟨au, cu, rfl⟩ := hu.len
  refine (callsIn_wide (n := 9)).1 ?_
  refine callsIn_of_wp_marks Try.func40 rfl trivial ?_ rfl
  simp only [Try.ntmps40, List.size_toArray, List.length_cons, List.length_nil, Nat.reduceAdd, Nat.reduceSub, Array.replicate_succ, Array.replicate_zero, List.push_toArray, List.append_toArray, List.nil_append, List.cons_append]
  have c0 := p0.cell 0 rfl
  have c1 := p0.cell 1 rfl
  gi_wp2_with (refine ⟨trivial, ?_⟩; gi_at_call 41; refine (callsIn_wide.2 (states_any sup _ _ av au ns.length cv dss.length cu rfl rfl _)).mono ?_; rintro e w' ⟨rfl, rfl⟩)
  clear c0 c1
  have b8 := (BoxC.new ((((w.alloc (.cells #[.int .i64 sup, .slice av ns.length cv] 24)).alloc (.cells #[.int .i64 0] 3)).alloc (.cells #[.int .i64 0] 3)).alloc (.cells #[.bool false] 4)) 24 #[.int .i64 sup, .slice av ns.length cv]).alloc (.cells #[.slice au dss.length cu] 25)
  have b9 := BoxC.new (((((w.alloc (.cells #[.int .i64 sup, .slice av ns.length cv] 24)).alloc (.cells #[.int .i64 0] 3)).alloc (.cells #[.int .i64 0] 3)).alloc (.cells #[.bool false] 4)).alloc (.cells #[.int .i64 sup, .slice av ns.length cv] 24)) 25 #[.slice au dss.length cu]
  simp only [World.size_alloc] at b8 b9
  have hb2 : Below ((((w.alloc (.cells #[.int .i64 sup, .slice av ns.length cv] 24)).alloc (.cells #[.int .i64 0] 3)).alloc (.cells #[.int .i64 0] 3)).alloc (.cells #[.bool false] 4)).heap.size ((((w.alloc (.cells #[.int .i64 sup, .slice av ns.length cv] 24)).alloc (.cells #[.int .i64 0] 3)).alloc (.cells #[.int .i64 0] 3)).alloc (.cells #[.bool false] 4)) ((((((w.alloc (.cells #[.int .i64 sup, .slice av ns.length cv] 24)).alloc (.cells #[.int .i64 0] 3)).alloc (.cells #[.int .i64 0] 3)).alloc (.cells #[.bool false] 4)).alloc (.cells #[.int .i64 sup, .slice av ns.length cv] 24)).alloc (.cells #[.slice au dss.length cu] 25)) := ((Below.refl _ _).alloc (Nat.le_refl _) _).alloc (by simp) _
  replace p1 := p1.grown hb2
  replace p2 := p2.grown hb2
  replace p3 := p3.grown hb2
  have hbW := hb1.trans (hb2.mono hb1.size)
  have hsz : ((((((w.alloc (.cells #[.int .i64 sup, .slice av ns.length cv] 24)).alloc (.cells #[.int .i64 0] 3)).alloc (.cells #[.int .i64 0] 3)).alloc (.cells #[.bool false] 4)).alloc (.cells #[.int .i64 sup, .slice av ns.length cv] 24)).alloc (.cells #[.slice au dss.length cu] 25)).heap.size = w.heap.size + 6 := by simp
  clear p0 hb2 hb1 hz1
  generalize ((((((w.alloc (.cells #[.int .i64 sup, .slice av ns.length cv] 24)).alloc (.cells #[.int .i64 0] 3)).alloc (.cells #[.int .i64 0] 3)).alloc (.cells #[.bool false] 4)).alloc (.cells #[.int .i64 sup, .slice av ns.length cv] 24)).alloc (.cells #[.slice au dss.length cu] 25)) = W0 at p1 p2 p3 b8 b9 hbW hsz ⊢
  refine wpIn_range_told rfl (by omega) (gf := 50) (lb := #[.pointer (some ⟨w.heap.size + 1 + 1 + 1 + 1, 0, none⟩), .pointer (some ⟨w.heap.size + 1 + 1 + 1 + 1 + 1, 0, none⟩)]) rfl trivial (enters_of Try.func50 (by kernel_rfl) rfl)
    (states_told 8 (by omega) (fun k => k = w.heap.size + 1 ∨ k = w.heap.size + 1 + 1 ∨ k = w.heap.size + 1 + 1 + 1) none sup _ _ ns dss hp hs0 hs1 hd hdl w W0 _ _ b8 b9 hv hu (Old.of_below hbW) (by simp) ?hfp)
    Keeps.trans (Keeps.putObj (by simp)) (Below.refl _ _) (fun _ => rfl)
    (fun Q pre W => Hid (lkS ns sup dss pre.length = F) ∧ BoxC W (w.heap.size + 1) 3 #[.int .i64 0] ∧ BoxC W (w.heap.size + 1 + 1) 3 #[.int .i64 0] ∧ BoxC W (w.heap.size + 1 + 1 + 1) 4 #[.bool false] ∧ Below w.heap.size w W)
    (fun Q c pre W => c = .ret ∧ BoxC W (w.heap.size + 1) 3 #[.int .i64 F.1] ∧ BoxC W (w.heap.size + 1 + 1) 3 #[.int .i64 F.2.1] ∧ BoxC W (w.heap.size + 1 + 1 + 1) 4 #[.bool F.2.2] ∧ Below w.heap.size w W)
    ?hI ?hIx (fun Q pre x W l r r' => ydCn_put Q pre x W l r r') ?h0 (fun Q pre x W W' _ h hb => ydCn_below h hb (by simp)) (fun W W' _ hb => Keeps.grown hb (by simp))
    (fun x a' W => ∃ Bx, BoxC W Bx 44 #[.slice x.a1 ns.length x.c1, .slice x.a2 ns.length x.c2, .slice x.a3 ns.length x.c3] ∧ a' = { tmps := #[plV sup (.slice av ns.length cv), .slice au dss.length cu, .pointer (some ⟨w.heap.size, 0, none⟩), undef, .pointer (some ⟨w.heap.size + 1, 0, none⟩), .pointer (some ⟨w.heap.size + 1 + 1, 0, none⟩), .pointer (some ⟨w.heap.size + 1 + 1 + 1, 0, none⟩), .int .i64 x.i, .pointer (some ⟨Bx, 0, none⟩), undef, plV sup (.slice av ns.length cv), .slice au dss.length cu, .func (.func 50) #[] #[.pointer (some ⟨w.heap.size + 1 + 1 + 1 + 1, 0, none⟩), .pointer (some ⟨w.heap.size + 1 + 1 + 1 + 1 + 1, 0, none⟩)], .int .i64 x.i, stV (.slice x.a1 ns.length x.c1) (.slice x.a2 ns.length x.c2) (.slice x.a3 ns.length x.c3), undef, undef, undef, undef, undef, undef, undef], defers := [] })
    ?hAx ?assign ?body ?done ?stop
  case hfp =>
    intro k hk
    have := fp_none.1 hk
    omega
  case hI =>
    intro Q hQ
    refine ⟨OwnFrom.and (ownFrom_pure _ (fun pre : List Yd => Hid (lkS ns sup dss pre.length = F))) (OwnFrom.and (Own.from (boxC_own _ _ (fun _ => #[Value.int .i64 0])) _) (OwnFrom.and (Own.from (boxC_own _ _ (fun _ => #[Value.int .i64 0])) _) (OwnFrom.and (Own.from (boxC_own _ _ (fun _ => #[Value.bool false])) _) (ownFrom_below (Nat.le_refl _) (by omega))))), ?_⟩
    rintro s X i u ⟨h1, h2, h3, h4, h5⟩
    exact ⟨h1, h2.other (by show w.heap.size + 1 ≠ Q; omega) _, h3.other (by show w.heap.size + 1 + 1 ≠ Q; omega) _, h4.other (by show w.heap.size + 1 + 1 + 1 ≠ Q; omega) _, h5.setCell (by show w.heap.size ≤ Q; omega) _⟩
  case hIx =>
    intro Q c hQ
    rintro s X Y row ⟨h1, h2, h3, h4, h5⟩ hg hr
    refine ⟨h1, boxC_own _ _ (fun (_ : Unit) => #[Value.int .i64 F.1]) () X Y row h2 hg (fun r e => (hr r e).2), boxC_own _ _ (fun (_ : Unit) => #[Value.int .i64 F.2.1]) () X Y row h3 hg (fun r e => (hr r e).2), boxC_own _ _ (fun (_ : Unit) => #[Value.bool F.2.2]) () X Y row h4 hg (fun r e => (hr r e).2), ownFrom_below (β := Unit) (n₀ := w.heap.size) (B := W0.heap.size) (Nat.le_refl _) (by omega) () X Y row h5 hg hr⟩
  case h0 =>
    intro Q hQ W hb _
    exact ⟨hF, p1.grown hb, p2.grown hb, p3.grown hb, hbW.trans (hb.mono hbW.size)⟩
  case hAx =>
    rintro x a' _ X Y row ⟨Bx, h2, h3⟩ hg hr
    exact ⟨Bx, boxC_own Bx 44 (fun (_ : Unit) => #[.slice x.a1 ns.length x.c1, .slice x.a2 ns.length x.c2, .slice x.a3 ns.length x.c3]) () X Y row h2 hg (fun r e => (hr r e).2), h3⟩
  case assign =>
    rintro j x W K hK
    have hb := (Below.refl W.heap.size W).alloc (Nat.le_refl _) (.cells #[.slice x.a1 ns.length x.c1, .slice x.a2 ns.length x.c2, .slice x.a3 ns.length x.c3] 44)
    gi_wp2
    exact hK _ _ hb ⟨W.heap.size, BoxC.new W 44 _, rfl⟩
  case body =>
    rintro j Q pre x a' W hl hQ ⟨hI1, hI2, hI3, hI4, hI5⟩ ⟨_, hxi, hst, _, _, _⟩ ⟨Bx, bX, rfl⟩ hlt
    have hlk := hst.lk
    have hll : (runT ns sup dss (x.i + 1)).lk.length = ns.length := by
      obtain ⟨a, c, e⟩ := hlk.len
      injection e with _ e2 _
      exact e2.symm
    have hix := indexFunc_any .i64 49 #[] posP _ _ W (fun n w' _ => pos_any n w') (enters_of Try.func49 (by kernel_rfl) rfl) hlk (by omega)
    have hz : idxS posP (runT ns sup dss (x.i + 1)).lk 0 = lkI ns sup dss pre.length := by rw [hxi]; rfl
    rw [hz] at hix
    have L1 := @lkS_hit ns sup dss pre.length hlt
    have L2 := @lkS_next ns sup dss pre.length hlt
    generalize lkI ns sup dss pre.length = z at hix L1 L2
    have hxe : (pre.length : Int) = (x.i : Int) := by omega
    rw [hxe] at L1
    clear hz hll hlk hst
    replace hix := Lib.hid hix
    replace hxi := Lib.hid hxi
    replace hxe := Lib.hid hxe
    have c2 := bX.cell 2 rfl
    by_cases h0 : 0 ≤ z
    · have hF1 := (L1 h0).symm.trans hI1.out
      have hF2 := Lib.hid hF1
      clear L1 L2 hF1
      gi_wp2_with fail
      refine ⟨trivial, ?_⟩
      refine (CallsIn.inRound j (callsIn_wide.2 hix.out)).mono ?_
      rintro e w1 ⟨rfl, hb⟩
      have k2 := hI2.grown hb
      have k3 := hI3.grown hb
      have k4 := hI4.grown hb
      have d2 := k2.cell 0 rfl
      have d3 := k3.cell 0 rfl
      have d4 := k4.cell 0 rfl
      have f2 := k2.frozen 0
      have f3 := k3.frozen 0
      have f4 := k4.frozen 0
      clear c2
      gi_wp2
      refine ⟨(keepsFrom_grown hb).trans (((KeepsOthers.setCell _ _ _).from _).trans (((KeepsOthers.setCell _ _ _).from _).trans ((KeepsOthers.setCell _ _ _).from _))), rfl, ?_, ?_, ?_, ?_⟩
      · rw [← hF2.out]
        exact ((k2.set 0 _).other (p := ⟨w.heap.size + 1 + 1, 0, none⟩) (by simp) _).other (p := ⟨w.heap.size + 1 + 1 + 1, 0, none⟩) (by first | (simp; done) | (simp; omega)) _
      · rw [← hF2.out]
        exact ((k3.other (p := ⟨w.heap.size + 1, 0, none⟩) (by simp) _).set 0 _).other (p := ⟨w.heap.size + 1 + 1 + 1, 0, none⟩) (by first | (simp; done) | (simp; omega)) _
      · rw [← hF2.out]
        exact ((k4.other (p := ⟨w.heap.size + 1, 0, none⟩) (by first | (simp; done) | (simp; omega)) _).other (p := ⟨w.heap.size + 1 + 1, 0, none⟩) (by first | (simp; done) | (simp; omega)) _).set 0 _
      · exact (((hI5.trans (hb.mono hI5.size)).setCell (p := ⟨w.heap.size + 1, 0, none⟩) (by simp) _).setCell (p := ⟨w.heap.size + 1 + 1, 0, none⟩) (by first | (simp; done) | (simp; omega)) _).setCell (p := ⟨w.heap.size + 1 + 1 + 1, 0, none⟩) (by first | (simp; done) | (simp; omega)) _
    · have hF1 := (L2 h0).symm.trans hI1.out
      have hF2 := Lib.hid hF1
      have h0' : z < 0 := by omega
      clear L1 L2 hF1
      gi_wp2_with fail
      refine ⟨trivial, ?_⟩
      refine (CallsIn.inRound j (callsIn_wide.2 hix.out)).mono ?_
      rintro e w1 ⟨rfl, hb⟩
      clear c2
      gi_wp2
      exact ⟨keepsFrom_grown hb, Keeps.grown hb (by simp), by simpa using hF2, hI2.grown hb, hI3.grown hb, hI4.grown hb, hI5.trans (hb.mono hI5.size)⟩
  case done =>
    rintro D Q xs W hD hQ hxs ⟨hI1, hI2, hI3, hI4, hI5⟩ hK
    have hF2 := Lib.hid ((lkS_end (ns := ns) (sup := sup) (dss := dss) (k := xs.length) (by omega)).symm.trans hI1.out)
    have d2 := hI2.cell 0 rfl
    have d3 := hI3.cell 0 rfl
    have d4 := hI4.cell 0 rfl
    have f2 := hI2.frozen 0
    have f3 := hI3.frozen 0
    have f4 := hI4.frozen 0
    clear hI1
    gi_wp2
    have e2 := ((hI2.set 0 (.int .i64 0)).other (p := ⟨w.heap.size + 1 + 1, 0, none⟩) (by simp) (.int .i64 0)).other (p := ⟨w.heap.size + 1 + 1 + 1, 0, none⟩) (by first | (simp; done) | (simp; omega)) (.bool false)
    have e3 := ((hI3.other (p := ⟨w.heap.size + 1, 0, none⟩) (by simp) (.int .i64 0)).set 0 (.int .i64 0)).other (p := ⟨w.heap.size + 1 + 1 + 1, 0, none⟩) (by first | (simp; done) | (simp; omega)) (.bool false)
    have e4 := ((hI4.other (p := ⟨w.heap.size + 1, 0, none⟩) (by first | (simp; done) | (simp; omega)) (.int .i64 0)).other (p := ⟨w.heap.size + 1 + 1, 0, none⟩) (by first | (simp; done) | (simp; omega)) (.int .i64 0)).set 0 (.bool false)
    have hB2 := ((hI5.setCell (p := ⟨w.heap.size + 1, 0, none⟩) (by simp) (.int .i64 0)).setCell (p := ⟨w.heap.size + 1 + 1, 0, none⟩) (by first | (simp; done) | (simp; omega)) (.int .i64 0)).setCell (p := ⟨w.heap.size + 1 + 1 + 1, 0, none⟩) (by first | (simp; done) | (simp; omega)) (.bool false)
    have hK2 := ((KeepsOthers.setCell W ⟨w.heap.size + 1, 0, none⟩ (.int .i64 0)).trans ((KeepsOthers.setCell _ ⟨w.heap.size + 1 + 1, 0, none⟩ (.int .i64 0)).trans (KeepsOthers.setCell _ ⟨w.heap.size + 1 + 1 + 1, 0, none⟩ (.bool false)))).same D _ hK rfl
    generalize (((W.setCell ⟨w.heap.size + 1, 0, none⟩ (.int .i64 0)).setCell ⟨w.heap.size + 1 + 1, 0, none⟩ (.int .i64 0)).setCell ⟨w.heap.size + 1 + 1 + 1, 0, none⟩ (.bool false)) = W8 at e2 e3 e4 hB2 hK2 ⊢
    have g2 := (e2.putObj (.deferred none) hK2 rfl).cell 0 rfl
    have g3 := (e3.putObj (.deferred none) hK2 rfl).cell 0 rfl
    have g4 := (e4.putObj (.deferred none) hK2 rfl).cell 0 rfl
    rw [← hF2.out]
    exact endM hK2 (v := .tuple #[.int .i64 0, .int .i64 0, .bool false]) (by simp [results, Try.f40, go_sem, g2, g3, g4]) ⟨rfl, below_putObj hB2 _ (by omega) hK2⟩
  case stop =>
    rintro D Q e pre W hD hQ _ ⟨rfl, hI2, hI3, hI4, hI5⟩ hK
    have g2 := (hI2.putObj (.deferred none) hK rfl).cell 0 rfl
    have g3 := (hI3.putObj (.deferred none) hK rfl).cell 0 rfl
    have g4 := (hI4.putObj (.deferred none) hK rfl).cell 0 rfl
    gi_wp2
    exact endM hK (v := .tuple #[.int .i64 F.1, .int .i64 F.2.1, .bool F.2.2]) (by simp [results, Try.f40, go_sem, g2, g3, g4]) ⟨rfl, below_putObj hI5 _ (by omega) hK⟩
end Go.Proofs.Ytfefocgekmeahaa
