/- The contract of bottleneck. Conditions: a right plant and demand, 0 ≤ k ≤ 1000. -/
import Derived.Test.YtfefocgekmeahaaW16
import Derived.Test.YtfefocgekmeahaaP4
namespace Go.Proofs.Ytfefocgekmeahaa
open Go.RowKit Go.Shelf
attribute [local go_sem] Oper.semAt_some

def BotPost (F : Int × Bool) (w : World) (e : Ending) (w' : World) : Prop := e = .returned (.tuple #[.int .i64 F.1, .bool F.2]) ∧ Below w.heap.size w w'

set_option maxRecDepth 100000 in
set_option maxHeartbeats 4000000 in
theorem bottleneck_any (sup : Int) (v : Value) (ns : List Nd) (x : Value) (dm : List Int) (k : Int) (w : World) (hv : NdSl w v ns) (hx : NumSl .i64 w x dm)
    (hp : PlOk ns) (hd : DmOk ns dm) (hk0 : 0 ≤ k) (hk1 : k ≤ 1000) :
    Calls Try.prog 45 #[plV sup v, x, .int .i64 k] w (BotPost (btF ns sup dm k) w) := by
  obtain ⟨av, cv, rfl⟩ := hv.len
  obtain ⟨ax, cx, hx0⟩ := hx.len
  rw [hd.len] at hx0
  subst hx0
  have hn30 := hp.len
  obtain ⟨F, hF⟩ : ∃ F, btF ns sup dm k = F := ⟨_, rfl⟩
  rw [hF]
  replace hF := Lib.hid ((cG_all hp hd hk0 hk1 sup).trans hF)
  refine (callsIn_wide (n := 9)).1 ?_
  refine callsIn_of_wp_marks Try.func45 rfl trivial ?_ rfl
  simp only [Try.ntmps45, List.size_toArray, List.length_cons, List.length_nil, Nat.reduceAdd, Nat.reduceSub, Array.replicate_succ, Array.replicate_zero, List.push_toArray, List.append_toArray, List.nil_append, List.cons_append]
  have hb1 : Below w.heap.size w (((w.alloc (.cells #[.int .i64 sup, .slice av ns.length cv] 24)).alloc (.cells #[.slice ax ns.length cx] 39)).alloc (.cells #[.int .i64 k] 3)) := (((Below.refl _ w).alloc (Nat.le_refl _) _).alloc (by simp) _).alloc (by simp; omega) _
  have b3 := ((BoxC.new w 24 #[.int .i64 sup, .slice av ns.length cv]).alloc (.cells #[.slice ax ns.length cx] 39)).alloc (.cells #[.int .i64 k] 3)
  have b4 := (BoxC.new (w.alloc (.cells #[.int .i64 sup, .slice av ns.length cv] 24)) 39 #[.slice ax ns.length cx]).alloc (.cells #[.int .i64 k] 3)
  have b5 := BoxC.new ((w.alloc (.cells #[.int .i64 sup, .slice av ns.length cv] 24)).alloc (.cells #[.slice ax ns.length cx] 39)) 3 #[.int .i64 k]
  simp only [World.size_alloc] at b4 b5
  have hz1 : (((w.alloc (.cells #[.int .i64 sup, .slice av ns.length cv] 24)).alloc (.cells #[.slice ax ns.length cx] 39)).alloc (.cells #[.int .i64 k] 3)).heap.size = w.heap.size + 1 + 1 + 1 := by simp
  have hmk := run_make39 ns.length hn30
  have p1 := b3.cell 1 rfl
  gi_wp2_with (refine ⟨trivial, ?_⟩; gi_at_call 53; refine (callsIn_wide.2 (back_any _ av ns.length cv rfl _)).mono ?_; rintro e w' ⟨rfl, rfl⟩)
  clear p1 hmk
  generalize hWa : (((w.alloc (.cells #[.int .i64 sup, .slice av ns.length cv] 24)).alloc (.cells #[.slice ax ns.length cx] 39)).alloc (.cells #[.int .i64 k] 3)) = Wa at hb1 b3 b4 b5 hz1 ⊢
  clear hWa
  have hrow := rowG_new (base := w.heap.size) (X := Wa) hn30 (by omega)
  have b8 := BoxC.new (Wa.alloc (.cells (madeCells #[.int .i64 0] ns.length) 3)) 39 #[.slice (some ⟨w.heap.size + 1 + 1 + 1, 0, none⟩) ns.length ns.length]
  have b9 := BoxC.new ((Wa.alloc (.cells (madeCells #[.int .i64 0] ns.length) 3)).alloc (.cells #[.slice (some ⟨w.heap.size + 1 + 1 + 1, 0, none⟩) ns.length ns.length] 39)) 3 #[.int .i64 0]
  have bB := BoxC.new (((Wa.alloc (.cells (madeCells #[.int .i64 0] ns.length) 3)).alloc (.cells #[.slice (some ⟨w.heap.size + 1 + 1 + 1, 0, none⟩) ns.length ns.length] 39)).alloc (.cells #[.int .i64 0] 3)) 22 #[.slice av ns.length cv]
  replace hrow := ((hrow.grown ((Below.refl _ _).alloc (Nat.le_refl _) (.cells #[.slice (some ⟨w.heap.size + 1 + 1 + 1, 0, none⟩) ns.length ns.length] 39))).grown ((Below.refl _ _).alloc (Nat.le_refl _) (.cells #[.int .i64 0] 3))).grown ((Below.refl _ _).alloc (Nat.le_refl _) (.cells #[.slice av ns.length cv] 22))
  replace b8 := (b8.alloc (.cells #[.int .i64 0] 3)).alloc (.cells #[.slice av ns.length cv] 22)
  replace b9 := b9.alloc (.cells #[.slice av ns.length cv] 22)
  have hbW : Below Wa.heap.size Wa ((((Wa.alloc (.cells (madeCells #[.int .i64 0] ns.length) 3)).alloc (.cells #[.slice (some ⟨w.heap.size + 1 + 1 + 1, 0, none⟩) ns.length ns.length] 39)).alloc (.cells #[.int .i64 0] 3)).alloc (.cells #[.slice av ns.length cv] 22)) := ((((Below.refl _ Wa).alloc (Nat.le_refl _) _).alloc (by simp) _).alloc (by simp; omega) _).alloc (by simp; omega) _
  simp only [World.size_alloc] at b8 b9 bB hrow
  rw [hz1] at b8 b9 bB hrow
  have hsz : ((((Wa.alloc (.cells (madeCells #[.int .i64 0] ns.length) 3)).alloc (.cells #[.slice (some ⟨w.heap.size + 1 + 1 + 1, 0, none⟩) ns.length ns.length] 39)).alloc (.cells #[.int .i64 0] 3)).alloc (.cells #[.slice av ns.length cv] 22)).heap.size = w.heap.size + 7 := by simp [hz1]
  replace b3 := b3.grown hbW
  replace b4 := b4.grown hbW
  replace b5 := b5.grown hbW
  have hb0 := hb1.trans (hbW.mono hb1.size)
  clear hb1
  generalize ((((Wa.alloc (.cells (madeCells #[.int .i64 0] ns.length) 3)).alloc (.cells #[.slice (some ⟨w.heap.size + 1 + 1 + 1, 0, none⟩) ns.length ns.length] 39)).alloc (.cells #[.int .i64 0] 3)).alloc (.cells #[.slice av ns.length cv] 22)) = W0 at hbW hsz b3 b4 b5 b8 b9 bB hb0 hrow ⊢
  clear hbW hz1
  refine wpIn_rangeFunc_ownH rfl (by omega) (gf := 57) (lb := #[.pointer (some ⟨w.heap.size + 1 + 1 + 1 + 1 + 1 + 1, 0, none⟩)]) rfl trivial (enters_of Try.func57 (by kernel_rfl) rfl)
    (back_stops 8 (by omega) (fun q => q = w.heap.size + 1 + 1 + 1 ∨ q = w.heap.size + 1 + 1 + 1 + 1 + 1) _ ns (by omega) W0 _ bB (hv.mono hb0) ?hvn ?hms)
    Keeps.trans (Keeps.putObj (by simp)) (Below.refl _ _) (fun _ => rfl)
    (fun pre W => BoxC W w.heap.size 24 #[.int .i64 sup, .slice av ns.length cv] ∧ BoxC W (w.heap.size + 1) 39 #[.slice ax ns.length cx] ∧ BoxC W (w.heap.size + 1 + 1) 3 #[.int .i64 k] ∧ BoxC W (w.heap.size + 1 + 1 + 1 + 1) 39 #[.slice (some ⟨w.heap.size + 1 + 1 + 1, 0, none⟩) ns.length ns.length] ∧ BoxC W (w.heap.size + 1 + 1 + 1 + 1 + 1) 3 #[.int .i64 (cG ns dm k pre).2] ∧ RowG w.heap.size (w.heap.size + 1 + 1 + 1) (.slice (some ⟨w.heap.size + 1 + 1 + 1, 0, none⟩) ns.length ns.length) ns.length (cG ns dm k pre).1 W ∧ Below w.heap.size w W ∧ w.heap.size + 7 ≤ W.heap.size)
    (fun _ _ _ => False)
    (OwnFrom.and (Own.from (boxC_own _ _ (fun _ => #[.int .i64 sup, .slice av ns.length cv])) _) (OwnFrom.and (Own.from (boxC_own _ _ (fun _ => #[.slice ax ns.length cx])) _) (OwnFrom.and (Own.from (boxC_own _ _ (fun _ => #[.int .i64 k])) _) (OwnFrom.and (Own.from (boxC_own _ _ (fun _ => #[.slice (some ⟨w.heap.size + 1 + 1 + 1, 0, none⟩) ns.length ns.length])) _) (OwnFrom.and (Own.from (boxC_own _ _ (fun pre => #[.int .i64 (cG ns dm k pre).2])) _) (OwnFrom.and (rowG_own _ _ _ _ _ _) (OwnFrom.and (ownFrom_below (Nat.le_refl _) (by omega)) (fun _ _ _ _ h hg _ => Nat.le_trans h hg.size))))))))
    (fun _ _ _ _ _ hs _ _ => hs)
    ⟨b3, b4, b5, b8, b9, hrow, hb0, by omega⟩
    (fun x a' W => ∃ Bn, w.heap.size + 7 ≤ Bn ∧ BoxC W Bn 42 (ndC (nd ns x.val)) ∧ a' = { tmps := #[.agg #[.int .i64 sup, .slice av ns.length cv], .slice ax ns.length cx, .int .i64 k, .pointer (some ⟨w.heap.size, 0, none⟩), .pointer (some ⟨w.heap.size + 1, 0, none⟩), .pointer (some ⟨w.heap.size + 1 + 1, 0, none⟩), .int .i64 0, .bool false, .pointer (some ⟨w.heap.size + 1 + 1 + 1 + 1, 0, none⟩), .pointer (some ⟨w.heap.size + 1 + 1 + 1 + 1 + 1, 0, none⟩), .int .i64 x.val, .pointer (some ⟨Bn, 0, none⟩), undef, undef, .pointer (some ⟨w.heap.size, 1, none⟩), .slice av ns.length cv, .int .i64 ns.length, .slice (some ⟨w.heap.size + 1 + 1 + 1, 0, none⟩) ns.length ns.length, .pointer (some ⟨w.heap.size, 1, none⟩), .slice av ns.length cv, .func (.func 57) #[] #[.pointer (some ⟨w.heap.size + 1 + 1 + 1 + 1 + 1 + 1, 0, none⟩)], .int .i64 x.val, .agg #[.int .i64 (nd ns x.val).p, .int .i64 (nd ns x.val).m, .int .i64 (nd ns x.val).c, .int .i64 (nd ns x.val).l], undef, undef, undef, undef, undef, undef, undef, undef, undef, undef, undef, undef, undef, undef, undef, undef, undef, undef, undef, undef, undef, undef, undef, undef, undef, undef, undef, undef, undef, undef, undef, undef, undef, undef, undef, undef, undef, undef, undef, undef, undef, undef, undef, undef, undef, undef, undef, undef, undef, undef, undef, undef, undef, undef], defers := [] })
    ?hAx ?assign ?body ?done ?stop
  case hvn =>
    rintro b hb h0 hq
    obtain ⟨b', h1, h2⟩ := hv.own h0
    rw [hb] at h1
    cases h1
    omega
  case hms => omega
  case hAx =>
    rintro x a' _ X Y row ⟨Bn, h2, h4, h5⟩ hg hr
    exact ⟨Bn, h2, boxC_own Bn 42 (fun (_ : Unit) => ndC (nd ns x.val)) () X Y row h4 hg (fun r e => (hr r e).2), h5⟩
  case assign =>
    rintro j pre x W K ⟨h3, h4, h5, h8, h9, hr, hB, hz⟩ hK
    have hb : Below W.heap.size W (W.alloc (.cells (ndC (nd ns x.val)) 42)) := (Below.refl W.heap.size W).alloc (Nat.le_refl _) _
    have bN := BoxC.new W 42 (ndC (nd ns x.val))
    gi_wp2
    exact hK _ _ (keepsFrom_grown hb) (Keeps.grown hb (by simp)) ⟨h3.grown hb, h4.grown hb, h5.grown hb, h8.grown hb, h9.grown hb, hr.grown hb, hB.trans (hb.mono hB.size), Nat.le_trans hz hb.size⟩ ⟨W.heap.size, hz, bN, rfl⟩
  case body =>
    rintro j pre x a' W hlj ⟨rr, hrr⟩ ⟨h3, h4, h5, h8, h9, hr, hB, hz⟩ ⟨Bn, hBn, bN, rfl⟩ hlen
    have hxl := x.isLt
    have h0 : 0 < ns.length := by omega
    have hSn := cG_snoc (dm := dm) (k := k) pre x
    have hbd := cG_bd hp hd hk0 hk1 pre
    have hbnd := bnd_30 (r := pre.length) (by omega)
    generalize cG ns dm k pre = s at hr h9 hSn hbd
    obtain ⟨us, al⟩ := s
    obtain ⟨hul, hub, ha0, ha1⟩ := hbd
    simp only at hr h9 hul hub ha0 ha1
    generalize bnd pre.length = bb at hub ha0 ha1 hbnd
    have hsx := scl_bd hd hk0 hk1 x.val
    have hux := hub x.val
    unfold cSt at hSn
    simp only at hSn
    obtain ⟨bx, ox, cpx, hex, hcx⟩ := (hx.mono hB).atN hd.len hxl
    cases hex
    have cd := hcx x.val hxl
    clear hcx
    have cr := hr.cell hxl
    have hdx := hd.all x.val
    have m2 : 0 ≤ nth dm x.val * k := Int.mul_nonneg hdx.1 hk0
    have m3 : nth dm x.val * k ≤ 1000000000 * 1000 := Int.mul_le_mul hdx.2 hk1 hk0 (by decide)
    have e1 : IntKind.i64.wrap (nth dm x.val * k) = nth dm x.val * k := IntWalk.i64_in _ (by omega)
    have e2 : IntKind.i64.wrap ((nth dm x.val * k).tdiv 1000) = scl dm k x.val := IntWalk.i64_quo _ _ (by omega)
    have e3 : IntKind.i64.wrap (nth us x.val + scl dm k x.val) = nth us x.val + scl dm k x.val := IntWalk.i64_in _ (by omega)
    have hpi := hp.p x.val hxl
    have cN := bN.cell 0 rfl
    have c8 := h8.cell 0 rfl
    have c4 := h4.cell 0 rfl
    have c5 := h5.cell 0 rfl
    have fx := hr.frozen h0 x.val
    have hxi : ((x.val : Nat) : Int) < (ns.length : Int) := by omega
    gi_wp2_with fail
    refine region_tail_round 13 (by kernel_rfl) (by kernel_rfl) (by kernel_rfl) ?_
    simp only [List.take_succ_cons, List.take_zero, List.drop_succ_cons, List.drop_zero]
    repeat still_step
    refine wpStill_nil ?_
    clear c8 c4 c5 cd cr fx cN e1 e2 e3 m2 m3
    obtain ⟨z, hzz⟩ : ∃ z, nth us x.val + scl dm k x.val = z := ⟨_, rfl⟩
    have hz0 : 0 ≤ z ∧ z ≤ 1073741824000000000 := by omega
    rw [hzz] at hSn ⊢
    clear hzz
    have hbd : Below W.heap.size W W.drew := (Below.refl _ _).drew
    have i2 := hr.drew
    have hkf2 := keepsFrom_grown (B := W0.heap.size) hbd
    have hkp2 := Keeps.grown (m := fun q => q = w.heap.size + 1 + 1 + 1 ∨ q = w.heap.size + 1 + 1 + 1 + 1 + 1) (B := none) hbd (by simp)
    replace h3 := h3.drew
    replace h4 := h4.drew
    replace h5 := h5.drew
    replace h8 := h8.drew
    replace h9 := h9.drew
    replace bN := bN.drew
    replace hB := hB.trans (hbd.mono hB.size)
    have hYz := hbd.size
    generalize W.drew = Y at i2 hkf2 hkp2 h3 h4 h5 h8 h9 bN hB hbd hYz ⊢
    have cx := i2.cell hxl
    have fx := i2.frozen h0 x.val
    go_wp2
    refine ⟨by simp, ?_⟩
    have i3 := i2.set x.val z
    replace h3 := h3.other (p := ⟨w.heap.size + 1 + 1 + 1, x.val, none⟩) (by show w.heap.size ≠ w.heap.size + 1 + 1 + 1; omega) (.int .i64 z)
    replace h4 := h4.other (p := ⟨w.heap.size + 1 + 1 + 1, x.val, none⟩) (by show w.heap.size + 1 ≠ w.heap.size + 1 + 1 + 1; omega) (.int .i64 z)
    replace h5 := h5.other (p := ⟨w.heap.size + 1 + 1 + 1, x.val, none⟩) (by show w.heap.size + 1 + 1 ≠ w.heap.size + 1 + 1 + 1; omega) (.int .i64 z)
    replace h8 := h8.other (p := ⟨w.heap.size + 1 + 1 + 1, x.val, none⟩) (by show w.heap.size + 1 + 1 + 1 + 1 ≠ w.heap.size + 1 + 1 + 1; omega) (.int .i64 z)
    replace h9 := h9.other (p := ⟨w.heap.size + 1 + 1 + 1, x.val, none⟩) (by show w.heap.size + 1 + 1 + 1 + 1 + 1 ≠ w.heap.size + 1 + 1 + 1; omega) (.int .i64 z)
    replace bN := bN.other (p := ⟨w.heap.size + 1 + 1 + 1, x.val, none⟩) (by show Bn ≠ w.heap.size + 1 + 1 + 1; omega) (.int .i64 z)
    replace hB := hB.setCell (p := ⟨w.heap.size + 1 + 1 + 1, x.val, none⟩) (by show w.heap.size ≤ w.heap.size + 1 + 1 + 1; omega) (.int .i64 z)
    have hkf3 := hkf2.trans ((KeepsOthers.setCell Y ⟨w.heap.size + 1 + 1 + 1, x.val, none⟩ (.int .i64 z)).from W0.heap.size)
    have hkp3 := hkp2.trans (Keeps.setCell (m := fun q => q = w.heap.size + 1 + 1 + 1 ∨ q = w.heap.size + 1 + 1 + 1 + 1 + 1) (B := none) Y (p := ⟨w.heap.size + 1 + 1 + 1, x.val, none⟩) (.int .i64 z) (.inl rfl) (by simp))
    have hYz2 : w.heap.size + 7 ≤ (Y.setCell ⟨w.heap.size + 1 + 1 + 1, x.val, none⟩ (.int .i64 z)).heap.size := by simp [World.setCell]; omega
    clear cx fx i2 hkf2 hkp2 hbd
    generalize Y.setCell ⟨w.heap.size + 1 + 1 + 1, x.val, none⟩ (.int .i64 z) = Z at h3 h4 h5 h8 h9 bN hB i3 hkf3 hkp3 hYz2 ⊢
    have cN : Z.cell? ⟨Bn, 0, none⟩ = some (.int .i64 (nd ns x.val).p) := bN.cell 0 rfl
    have ul2 : (us.set x.val z).length = ns.length := by simp [hul]
    have hzx : nth (us.set x.val z) x.val = z := by rw [nth_set (by omega), if_pos rfl]
    have cx := i3.cell hxl
    rw [hzx] at cx
    replace hzx := Lib.hid hzx
    replace ul2 := Lib.hid ul2
    have c8 := h8.cell 0 rfl
    by_cases hq : (nd ns x.val).p < 0
    · have hq2 : ¬ 0 ≤ (nd ns x.val).p := by omega
      rw [if_pos hq] at hSn
      replace hSn := Lib.hid hSn
      have c9 := h9.cell 0 rfl
      have e3 : IntKind.i64.wrap (al + z) = al + z := IntWalk.i64_in _ (by omega)
      gi_wp2_with fail
      refine region_tail_round 6 (by kernel_rfl) (by kernel_rfl) (by kernel_rfl) ?_
      simp only [List.take_succ_cons, List.take_zero, List.drop_succ_cons, List.drop_zero]
      repeat still_step
      refine wpStill_nil ?_
      clear c8 c9 cx cN e3
      have hbd : Below Z.heap.size Z Z.drew := (Below.refl _ _).drew
      have hkf4 := hkf3.trans (keepsFrom_grown (B := W0.heap.size) hbd)
      have hkp4 := hkp3.trans (Keeps.grown (m := fun q => q = w.heap.size + 1 + 1 + 1 ∨ q = w.heap.size + 1 + 1 + 1 + 1 + 1) (B := none) hbd (by simp))
      replace i3 := i3.drew
      replace h3 := h3.drew
      replace h4 := h4.drew
      replace h5 := h5.drew
      replace h8 := h8.drew
      replace h9 := h9.drew
      replace hB := hB.trans (hbd.mono hB.size)
      have hYz3 := hbd.size
      generalize Z.drew = Y at i3 hkf4 hkp4 h3 h4 h5 h8 h9 hB hbd hYz3 ⊢
      have c9 := h9.cell 0 rfl
      have f9 := h9.frozen 0
      go_wp2
      refine ⟨by simp, ?_⟩
      gi_wp2
      refine ⟨hkf4.trans ((KeepsOthers.setCell _ _ _).from _), hkp4.trans (Keeps.setCell _ _ (.inr rfl) (by simp)), ?_⟩
      simp only [hSn.out]
      refine ⟨h3.other (by first | (simp; done) | (simp; omega)) _, h4.other (by first | (simp; done) | (simp; omega)) _, h5.other (by first | (simp; done) | (simp; omega)) _, h8.other (by first | (simp; done) | (simp; omega)) _, h9.set 0 _, i3.other (fun _ => by show w.heap.size + 1 + 1 + 1 + 1 + 1 ≠ w.heap.size + 1 + 1 + 1; omega) _, hB.setCell (by show w.heap.size ≤ w.heap.size + 1 + 1 + 1 + 1 + 1; omega) _, by simp [World.setCell]; omega⟩
    · obtain ⟨q, hpq⟩ : ∃ q : Nat, (nd ns x.val).p = q := ⟨(nd ns x.val).p.toNat, by omega⟩
      have hqx : q < x.val := by omega
      have hqi : (q : Int) < (ns.length : Int) := by omega
      rw [if_neg hq, hpq, Int.toNat_natCast] at hSn
      replace hSn := Lib.hid hSn
      rw [hpq] at cN
      have hzq : nth (us.set x.val z) q = nth us q := by rw [nth_set (by omega), if_neg (by omega)]
      have cq := i3.cell (i := q) (by omega)
      rw [hzq] at cq
      have huq := hub q
      have e3 : IntKind.i64.wrap (nth us q + z) = nth us q + z := IntWalk.i64_in _ (by omega)
      replace hzq := Lib.hid hzq
      replace hpq := Lib.hid hpq
      clear hq hpi
      gi_wp2_with fail
      refine region_tail_round 11 (by kernel_rfl) (by kernel_rfl) (by kernel_rfl) ?_
      simp only [List.take_succ_cons, List.take_zero, List.drop_succ_cons, List.drop_zero]
      repeat still_step
      refine wpStill_nil ?_
      clear c8 cx cN cq e3
      have hbd : Below Z.heap.size Z Z.drew := (Below.refl _ _).drew
      have hkf4 := hkf3.trans (keepsFrom_grown (B := W0.heap.size) hbd)
      have hkp4 := hkp3.trans (Keeps.grown (m := fun q => q = w.heap.size + 1 + 1 + 1 ∨ q = w.heap.size + 1 + 1 + 1 + 1 + 1) (B := none) hbd (by simp))
      replace i3 := i3.drew
      replace h3 := h3.drew
      replace h4 := h4.drew
      replace h5 := h5.drew
      replace h8 := h8.drew
      replace h9 := h9.drew
      replace hB := hB.trans (hbd.mono hB.size)
      have hYz3 := hbd.size
      generalize Z.drew = Y at i3 hkf4 hkp4 h3 h4 h5 h8 h9 hB hbd hYz3 ⊢
      have cx := i3.cell (i := q) (by omega)
      have fx := i3.frozen h0 q
      go_wp2
      refine ⟨by simp, ?_⟩
      gi_wp2
      refine ⟨hkf4.trans ((KeepsOthers.setCell _ _ _).from _), hkp4.trans (Keeps.setCell _ _ (.inl rfl) (by simp)), ?_⟩
      simp only [hSn.out]
      refine ⟨h3.other (by first | (simp; done) | (simp; omega)) _, h4.other (by first | (simp; done) | (simp; omega)) _, h5.other (by first | (simp; done) | (simp; omega)) _, h8.other (by first | (simp; done) | (simp; omega)) _, h9.other (by first | (simp; done) | (simp; omega)) _, i3.set q _, hB.setCell (by show w.heap.size ≤ w.heap.size + 1 + 1 + 1; omega) _, by simp [World.setCell]; omega⟩
  case done =>
    rintro D ys W hD rfl ⟨h3, h4, h5, h8, h9, hr, hB, hz⟩ hK
    have hul := hr.1
    generalize cG ns dm k (backT ns.length ns.length) = s at h9 hr hF hul
    obtain ⟨us, al⟩ := s
    simp only at h9 hr hF hul
    have hDW := heap_lt hK
    have hvW := hv.mono hB
    clear b3 b4 b5 b8 b9 bB hrow hb0 h4 h5
    have c31 := h3.cell 1 rfl
    gi_wp2
    clear c31
    gi_loopw [59] (fun q Y => ∃ i : Nat, i ≤ ns.length ∧ q = .int .i64 i ∧ Hid (limS ns sup us al i = F) ∧ Below W.heap.size W Y) (fun q _ => ns.length - (intOf q).toNat)
    case atStart => exact ⟨0, Nat.zero_le _, rfl, hF, Below.refl _ _⟩
    case round =>
      clear hF
      obtain ⟨i, hi, rfl, hF, hY⟩ := hrel
      have hDY := (hY.block D hDW).trans hK
      have hBY := hB.trans (hY.mono hB.size)
      have hDl := heap_lt hDY
      by_cases hlt : i < ns.length
      · obtain ⟨bv, ov, cpv, hev, hcv⟩ := (hvW.mono hY).at hlt
        cases hev
        obtain ⟨n1, n2, n3, n4⟩ := hcv i hlt
        clear hcv
        have hii : (i : Int) < (ns.length : Int) := by omega
        have hbm := (Below.refl wr.heap.size wr).alloc (Nat.le_refl _) (.cells (ndC (nd ns i)) 42)
        have bN := BoxC.new wr 42 (ndC (nd ns i))
        have cm : (wr.alloc (.cells (ndC (nd ns i)) 42)).cell? ⟨wr.heap.size, 1, none⟩ = some (.int .i64 (nd ns i).m) := bN.cell 1 rfl
        have c8 := ((h8.grown hY).grown hbm).cell 0 rfl
        have cu := ((hr.grown hY).grown hbm).cell hlt
        have L1 := @limS_hit ns sup us al i hlt
        have L2 := @limS_next ns sup us al i hlt
        have hDm := (hbm.block D hDl).trans hDY
        have hBm := hBY.trans (hbm.mono hBY.size)
        have hYm := hY.trans (hbm.mono hY.size)
        by_cases h0 : (nd ns i).m < nth us i
        · replace L1 := Lib.hid ((L1 h0).symm.trans hF.out)
          clear L2 hF
          gi_wp2_with fail
          refine wpIn_wide.2 ?_
          go_quiet (fail)
          have hDn : ((wr.alloc (.cells (ndC (nd ns i)) 42)).drewN nq).heap[D]? = some (.deferred (some [])) := hDm
          have hBn := below_drewN hBm nq
          clear hDm hBm hYm c8 cu cm bN n1 n2 n3 n4
          gi_wp2
          exact endM hDn (v := .tuple #[.int .i64 i, .bool true]) (by simp [results, Try.f45, go_sem]) ⟨by rw [← L1.out], below_putObj hBn _ (by omega) hDn⟩
        · replace L2 := Lib.hid ((L2 h0).symm.trans hF.out)
          have h0' : ¬ nth us i > (nd ns i).m := h0
          clear L1 hF
          gi_wp2_with fail
          refine wpIn_wide.2 ?_
          go_quiet (fail)
          have hYn := below_drewN hYm nq
          clear hDm hBm hYm c8 cu cm bN n1 n2 n3 n4
          gi_wp2
          go_roundw
          case rel => exact ⟨i + 1, by omega, by go_num, L2, hYn⟩
          case measure => simp [intOf]; omega
      · obtain rfl : i = ns.length := by omega
        have c9 := (h9.grown hY).cell 0 rfl
        have c3 := (h3.grown hY).cell 0 rfl
        by_cases h0 : sup < al
        · have L := Lib.hid ((limS_over (ns := ns) (cs := us) (Nat.le_refl _) h0).symm.trans hF.out)
          gi_wp2
          exact endM hDY (v := .tuple #[.int .i64 (-1), .bool true]) (by simp [results, Try.f45, go_sem]) ⟨by rw [← L.out], below_putObj hBY _ (by omega) hDY⟩
        · have L := Lib.hid ((limS_ok (ns := ns) (cs := us) (Nat.le_refl _) h0).symm.trans hF.out)
          have h0' : ¬ al > sup := h0
          gi_wp2
          exact endM hDY (v := .tuple #[.int .i64 0, .bool false]) (by simp [results, Try.f45, go_sem]) ⟨by rw [← L.out], below_putObj hBY _ (by omega) hDY⟩
  case stop =>
    rintro D e pre W hD _ h
    exact h.elim
end Go.Proofs.Ytfefocgekmeahaa
