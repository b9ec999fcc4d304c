/- The contract of step. Conditions: a right plant, levels and demand. -/
import Derived.Test.YtfefocgekmeahaaW7
import Derived.Deep.RegionHeld3
namespace Go.Proofs.Ytfefocgekmeahaa
open Go.RowKit Go.Shelf
attribute [local go_sem] Oper.semAt_some

theorem NdSl.kept {w w' : World} {v : Value} {ns : List Nd} {row : Option Nat} (h : NdSl w v ns) (hg : w.grownBy w' row) (hne : ∀ b, v.ownBlock = some b → 0 < ns.length → row ≠ some b) : NdSl w' v ns := by
  rcases h with h | ⟨b, off, cap, rfl, hc⟩
  · exact .inl h
  · refine .inr ⟨b, off, cap, rfl, fun i hi => ?_⟩
    obtain ⟨h1, h2, h3, h4⟩ := hc i hi
    have hf : some b ≠ row := fun e => hne b rfl (by omega) e.symm
    exact ⟨hg.cell (a := ⟨b, _, none⟩) h1 hf, hg.cell (a := ⟨b, _, none⟩) h2 hf, hg.cell (a := ⟨b, _, none⟩) h3 hf, hg.cell (a := ⟨b, _, none⟩) h4 hf⟩
theorem NumSl.own {K : IntKind} {w : World} {v : Value} {xs : List Int} (h : NumSl K w v xs) (hn : 0 < xs.length) : ∃ b, v.ownBlock = some b ∧ b < w.heap.size := by
  obtain ⟨b, off, cap, rfl, hc⟩ := h.at hn
  exact ⟨b, rfl, lt_of_cell (hc 0 hn)⟩

/-- behind a step: a state of slices of its own -/
def StepPost (S : St) (n : Nat) (w : World) (e : Ending) (w' : World) : Prop :=
  ∃ v1 v2 v3 : Value, e = .returned (.agg #[v1, v2, v3]) ∧ NumSl .i64 w' v1 S.lv ∧ NumSl .i64 w' v2 S.tk ∧ NumSl .i64 w' v3 S.lk ∧
    (∀ b, 0 < n → v1.ownBlock = some b → w.heap.size ≤ b) ∧ (∀ b, 0 < n → v2.ownBlock = some b → w.heap.size ≤ b) ∧ (∀ b, 0 < n → v3.ownBlock = some b → w.heap.size ≤ b) ∧ Below w.heap.size w w'

set_option maxRecDepth 100000 in
set_option maxHeartbeats 4000000 in
theorem step_any (sup : Int) (v : Value) (ns : List Nd) (u : Value) (lv : List Int) (x : Value) (dm : List Int) (w : World) (hv : NdSl w v ns) (hu : NumSl .i64 w u lv) (hx : NumSl .i64 w x dm)
    (hp : PlOk ns) (hl : LvOk ns lv) (hd : DmOk ns dm) (hs0 : 0 ≤ sup) (hs1 : sup ≤ 1000000000) :
    Calls Try.prog 46 #[plV sup v, u, x] w (StepPost (stepF ns sup lv dm) ns.length w) := by
  obtain ⟨av, cv, rfl⟩ := hv.len
  obtain ⟨au, cu, hu0⟩ := hu.len
  rw [hl.len] at hu0
  subst hu0
  obtain ⟨ax, cx, hx0⟩ := hx.len
  rw [hd.len] at hx0
  subst hx0
  have hmf : ∀ (fn : Fn) (first cap : Array Value) (w : World), (Instr.makeFunc fn first cap).run Try.prog w = .ok (.func fn first cap) w := fun _ _ _ _ => rfl
  refine (callsIn_wide (n := 9)).1 ?_
  refine callsIn_of_wp_marks Try.func46 rfl trivial ?_ rfl
  simp only [Try.ntmps46, List.size_toArray, List.length_cons, List.length_nil, Nat.reduceAdd, Nat.reduceSub, Array.replicate_succ, Array.replicate_zero, List.push_toArray, List.append_toArray, List.nil_append, List.cons_append]
  have hb1 : Below w.heap.size w (((w.alloc (.cells #[.int .i64 sup, .slice av ns.length cv] 24)).alloc (.cells #[.slice au ns.length cu] 39)).alloc (.cells #[.slice none 0 0, .slice none 0 0, .slice none 0 0] 44)) := (((Below.refl _ w).alloc (Nat.le_refl _) _).alloc (by simp) _).alloc (by simp; omega) _
  have hcl := clone_any _ dm _ (hx.mono hb1) (by rw [hd.len]; have := hp.len; omega)
  have b3 := ((BoxC.new w 24 #[.int .i64 sup, .slice av ns.length cv]).alloc (.cells #[.slice au ns.length cu] 39)).alloc (.cells #[.slice none 0 0, .slice none 0 0, .slice none 0 0] 44)
  have b4 := (BoxC.new (w.alloc (.cells #[.int .i64 sup, .slice av ns.length cv] 24)) 39 #[.slice au ns.length cu]).alloc (.cells #[.slice none 0 0, .slice none 0 0, .slice none 0 0] 44)
  have b6 := BoxC.new ((w.alloc (.cells #[.int .i64 sup, .slice av ns.length cv] 24)).alloc (.cells #[.slice au ns.length cu] 39)) 44 #[.slice none 0 0, .slice none 0 0, .slice none 0 0]
  simp only [World.size_alloc] at b4 b6
  have hv1 := hv.mono hb1
  have hu1 := hu.mono hb1
  have hz1 : (((w.alloc (.cells #[.int .i64 sup, .slice av ns.length cv] 24)).alloc (.cells #[.slice au ns.length cu] 39)).alloc (.cells #[.slice none 0 0, .slice none 0 0, .slice none 0 0] 44)).heap.size = w.heap.size + 3 := by simp
  replace hcl := Lib.hid hcl
  gi_wp2_with fail
  generalize hWa : (((w.alloc (.cells #[.int .i64 sup, .slice av ns.length cv] 24)).alloc (.cells #[.slice au ns.length cu] 39)).alloc (.cells #[.slice none 0 0, .slice none 0 0, .slice none 0 0] 44)) = Wa at hb1 hcl b3 b4 b6 hv1 hu1 hz1 ⊢
  clear hWa
  refine ⟨trivial, ?_⟩
  refine (callsIn_wide.2 hcl.out).mono ?_
  rintro e w1 ⟨g, aw, cw, rfl, hg, hrow, hbw⟩
  rw [hd.len] at hrow ⊢
  have hb0 := hb1.trans (hbw.mono hb1.size)
  replace b3 := b3.grown hbw
  replace b4 := b4.grown hbw
  replace b6 := b6.grown hbw
  replace hv1 := hv1.mono hbw
  replace hu1 := hu1.mono hbw
  have hz2 : w.heap.size + 3 ≤ w1.heap.size := by have := hbw.size; omega
  have hg2 : w.heap.size + 3 ≤ g := by omega
  have hxW := (hx.mono hb1).mono hbw
  clear hcl hbw hb1
  have hrow' : RowG w.heap.size g (.slice aw ns.length cw) ns.length dm w1 := by
    obtain ⟨q1, q2⟩ := hrow
    refine ⟨q1, fun hn => ?_⟩
    obtain ⟨cap, q3, q4, q5⟩ := q2 hn
    refine ⟨cap, q3, q4, ?_⟩
    rcases q5 with q5 | ⟨g', cap', cur, r1, r2, r3⟩
    · exact .inl q5
    · exact .inr ⟨g', cap', cur, r1, by omega, r3⟩
  clear hrow
  have b7 := (BoxC.new w1 39 #[.slice aw ns.length cw]).alloc (.cells #[.slice av ns.length cv] 22)
  have bB := BoxC.new (w1.alloc (.cells #[.slice aw ns.length cw] 39)) 22 #[.slice av ns.length cv]
  simp only [World.size_alloc] at bB
  have p1 := (b3.alloc (.cells #[.slice aw ns.length cw] 39)).cell 1 rfl
  gi_wp2_with (refine ⟨trivial, ?_⟩; gi_at_call 53; refine (callsIn_wide.2 (back_any _ av ns.length cv rfl _)).mono ?_; rintro e w' ⟨rfl, rfl⟩)
  have hbW : Below w1.heap.size w1 ((w1.alloc (.cells #[.slice aw ns.length cw] 39)).alloc (.cells #[.slice av ns.length cv] 22)) := ((Below.refl _ w1).alloc (Nat.le_refl _) _).alloc (by simp) _
  have hsz : ((w1.alloc (.cells #[.slice aw ns.length cw] 39)).alloc (.cells #[.slice av ns.length cv] 22)).heap.size = w1.heap.size + 2 := by simp
  replace b3 := b3.grown hbW
  replace b4 := b4.grown hbW
  replace b6 := b6.grown hbW
  replace hv1 := hv1.mono hbW
  replace hu1 := hu1.mono hbW
  replace hxW := hxW.mono hbW
  replace hb0 := hb0.trans (hbW.mono hb0.size)
  have hglt := fun h => (hrow'.lt h).2
  replace hrow' := hrow'.grown hbW
  clear p1
  generalize ((w1.alloc (.cells #[.slice aw ns.length cw] 39)).alloc (.cells #[.slice av ns.length cv] 22)) = W0 at hbW hsz b3 b4 b6 b7 bB hv1 hu1 hxW hb0 hrow' ⊢
  clear hbW
  obtain ⟨rg, hrg⟩ : ∃ rg : Option Nat, rg = if 0 < ns.length then some g else none := ⟨_, rfl⟩
  have hrn : ∀ b, (0 < ns.length → b ≠ g) → some b ≠ rg := fun b h e => by
    rw [hrg] at e
    split at e
    · rename_i hn
      cases e
      exact h hn rfl
    · cases e
  have hrs : 0 < ns.length → rg = some g := fun h => by rw [hrg, if_pos h]
  have hrl : ∀ k, rg = some k → w.heap.size ≤ k := fun k e => by
    rw [hrg] at e
    split at e
    · cases e; omega
    · cases e
  replace hrn := Lib.hid hrn
  replace hrs := Lib.hid hrs
  clear hrg
  have hvne : ∀ b, (Value.slice av ns.length cv).ownBlock = some b → 0 < ns.length → b ≠ g := fun b hb hn => by
    obtain ⟨b', h1, h2⟩ := hv.own hn
    rw [hb] at h1
    cases h1
    omega
  have hune : ∀ b, (Value.slice au ns.length cu).ownBlock = some b → 0 < lv.length → b ≠ g := fun b hb hn => by
    obtain ⟨b', h1, h2⟩ := hu.own hn
    rw [hb] at h1
    cases h1
    omega
  have hxne : ∀ b, (Value.slice ax ns.length cx).ownBlock = some b → 0 < dm.length → b ≠ g := fun b hb hn => by
    obtain ⟨b', h1, h2⟩ := hx.own hn
    rw [hb] at h1
    cases h1
    omega
  refine wpIn_rangeFunc_ownH rfl (by omega) (gf := 57) (lb := #[.pointer (some ⟨w1.heap.size + 1, 0, none⟩)]) rfl trivial (enters_of Try.func57 (by kernel_rfl) rfl)
    (back_stops 8 (by omega) (fun k => 0 < ns.length ∧ k = g) _ ns (by have := hp.len; omega) W0 _ bB hv1 ?hvn ?hms)
    Keeps.trans (Keeps.putObj (by simp)) (Below.refl _ _) (fun _ => rfl)
    (fun pre W => W0.grownBy W rg ∧ RowG w.heap.size g (.slice aw ns.length cw) ns.length (wG ns lv dm pre) W)
    (fun _ _ _ => False)
    (OwnFrom.and (grownBy_own (Nat.le_refl _)) (rowG_own _ _ _ _ _ _))
    (fun _ _ _ _ _ hs _ _ => hs)
    ⟨World.grownBy.refl _ _, hrow'⟩
    (fun x a' W => ∃ Bi Bn, W0.heap.size ≤ Bi ∧ Bi < Bn ∧ BoxC W Bi 3 #[.int .i64 x.val] ∧ BoxC W Bn 42 (ndC (nd ns x.val)) ∧ a' = { tmps := #[.agg #[.int .i64 sup, .slice av ns.length cv], .slice au ns.length cu, .slice ax ns.length cx, .pointer (some ⟨w.heap.size, 0, none⟩), .pointer (some ⟨w.heap.size + 1, 0, none⟩), undef, .pointer (some ⟨w.heap.size + 1 + 1, 0, none⟩), .pointer (some ⟨w1.heap.size, 0, none⟩), .pointer (some ⟨Bi, 0, none⟩), .pointer (some ⟨Bn, 0, none⟩), undef, undef, undef, undef, undef, undef, .slice ax ns.length cx, .slice aw ns.length cw, .pointer (some ⟨w.heap.size, 1, none⟩), .slice av ns.length cv, .func (.func 57) #[] #[.pointer (some ⟨w1.heap.size + 1, 0, none⟩)], .int .i64 x.val, .agg #[.int .i64 (nd ns x.val).p, .int .i64 (nd ns x.val).m, .int .i64 (nd ns x.val).c, .int .i64 (nd ns x.val).l], undef, undef, undef, undef, undef, undef, undef, undef, undef, undef, undef, undef, undef, undef, undef, undef, undef, undef, undef, undef, undef, undef, undef, undef, undef, undef, undef, undef, undef, undef, undef, undef, undef, undef, undef, undef, undef, undef, undef, undef, undef, undef, undef, undef, undef, undef, undef, undef, undef, undef, undef, undef, undef, undef, undef, undef, undef, undef, undef, undef, undef, undef, undef, undef, undef, undef, undef, undef, undef, undef, undef, undef, undef, undef, undef, undef, undef, undef, undef, undef, undef, undef, undef, undef, undef, undef, undef, undef, undef, undef, undef, undef], defers := [] })
    ?hAx ?assign ?body ?done ?stop
  case hvn =>
    rintro b hb h0 ⟨_, rfl⟩
    obtain ⟨b', h1, h2⟩ := hv.own h0
    rw [hb] at h1
    cases h1
    omega
  case hms =>
    rintro ⟨h0, h1⟩
    have := hglt h0
    omega
  case hAx =>
    rintro x a' _ X Y row ⟨Bi, Bn, h1, h2, h3, h4, h5⟩ hg hr
    exact ⟨Bi, Bn, h1, h2, boxC_own Bi 3 (fun (_ : Unit) => #[Value.int .i64 x.val]) () X Y row h3 hg (fun r e => (hr r e).2), boxC_own Bn 42 (fun (_ : Unit) => ndC (nd ns x.val)) () X Y row h4 hg (fun r e => (hr r e).2), h5⟩
  case assign =>
    rintro j pre x W K ⟨hI1, hI2⟩ hK
    have hb : Below W.heap.size W ((W.alloc (.cells #[.int .i64 x.val] 3)).alloc (.cells (ndC (nd ns x.val)) 42)) := ((Below.refl W.heap.size W).alloc (Nat.le_refl _) _).alloc (by simp) _
    have bI := (BoxC.new W 3 #[.int .i64 x.val]).alloc (.cells (ndC (nd ns x.val)) 42)
    have bN := BoxC.new (W.alloc (.cells #[.int .i64 x.val] 3)) 42 (ndC (nd ns x.val))
    have hW0 := hI1.size
    gi_wp2
    exact hK _ _ (keepsFrom_grown hb) (Keeps.grown hb (by simp)) ⟨grownBy_trans hI1 (below_row hb _), hI2.grown hb⟩ ⟨W.heap.size, W.heap.size + 1, hW0, by omega, bI, by simpa using bN, rfl⟩
  case body =>
    rintro j pre x a' W hlj ⟨rr, hrr⟩ ⟨hI1, hI2⟩ ⟨Bi, Bn, hBi, hBn, bI, bN, rfl⟩ hlen
    have hxl := x.isLt
    have h0 : 0 < ns.length := by omega
    have hg0 := hglt h0
    have q3 := b3.kept hI1 (hrn.out _ (fun _ => by omega))
    have q4 := b4.kept hI1 (hrn.out _ (fun _ => by omega))
    have q7 := b7.kept hI1 (hrn.out _ (fun h => by have := hglt h; omega))
    have vW := hv1.kept hI1 (fun b hb hn e => hvne b hb hn (by rw [hrs.out hn] at e; cases e; rfl))
    have hSn := wG_snoc (lv := lv) (dm := dm) pre x
    have hwl := wG_len (ns := ns) (lv := lv) (dm := dm) pre
    have hwb := wG_bd (lv := lv) (dm := dm) hp hl hd pre
    rw [hd.len] at hwl
    generalize wG ns lv dm pre = ws at hI2 hSn hwl hwb
    replace hSn := Lib.hid hSn
    replace hwl := Lib.hid hwl
    replace hwb := Lib.hid hwb
    have c30 := q3.cell 0 rfl
    have c31 := q3.cell 1 rfl
    have f3 := q3.frozen 0
    have cI := bI.cell 0 rfl
    gi_wp2_with (refine ⟨trivial, ?_⟩; gi_at_call 55; refine (CallsIn.inRound j (callsIn_wide.2 (children_any _ _ _ av ns.length cv rfl _))).mono ?_; rintro e w' ⟨rfl, rfl⟩)
    clear c30 c31 f3 cI
    have bc1 := (BoxC.new W 24 #[.int .i64 sup, .slice av ns.length cv]).alloc (.cells #[.int .i64 x.val] 3)
    have bc2 := BoxC.new (W.alloc (.cells #[.int .i64 sup, .slice av ns.length cv] 24)) 3 #[.int .i64 x.val]
    simp only [World.size_alloc] at bc2
    have hbc : Below W.heap.size W ((W.alloc (.cells #[.int .i64 sup, .slice av ns.length cv] 24)).alloc (.cells #[.int .i64 x.val] 3)) := ((Below.refl _ W).alloc (Nat.le_refl _) _).alloc (by simp) _
    have hWs := hI1.size
    have hjl := heap_lt hrr
    replace hrr := (hbc.block j hjl).trans hrr
    replace vW := vW.mono hbc
    replace hI1 := grownBy_trans hI1 (below_row hbc rg)
    replace hI2 := hI2.grown hbc
    replace bI := bI.grown hbc
    replace bN := bN.grown hbc
    have hkf := keepsFrom_grown (B := W0.heap.size) hbc
    have hkp := Keeps.grown (m := fun k => 0 < ns.length ∧ k = g) (B := none) hbc (by simp)
    have hcs : ((W.alloc (.cells #[.int .i64 sup, .slice av ns.length cv] 24)).alloc (.cells #[.int .i64 x.val] 3)).heap.size = W.heap.size + 2 := by simp
    generalize ((W.alloc (.cells #[.int .i64 sup, .slice av ns.length cv] 24)).alloc (.cells #[.int .i64 x.val] 3)) = Wc at bc1 bc2 hbc hrr vW hI1 hI2 bI bN hkf hkp hcs ⊢
    refine wpIn_rangeFunc_ownN (l₀ := j) rfl hrr (by omega) (gf := 58) (lb := #[.pointer (some ⟨W.heap.size, 0, none⟩), .pointer (some ⟨W.heap.size + 1, 0, none⟩)]) rfl trivial (enters_of Try.func58 (by kernel_rfl) rfl)
      ((children_stops 6 (by omega) (fun k => 0 < ns.length ∧ k = g) sup (x.val : Int) _ ns (by have := hp.len; omega) Wc _ _ bc1 bc2 vW ?ivn ?imp ?imi).inRound j)
      Keeps.trans (Keeps.putObj (by simp)) (Below.refl _ _) (fun _ => rfl)
      (fun pre' X => W0.grownBy X rg ∧ RowG w.heap.size g (.slice aw ns.length cw) ns.length (addL x.val ws pre') X ∧ KeepsFrom W0.heap.size W X ∧ Keeps (fun k => 0 < ns.length ∧ k = g) none W X ∧ BoxC X Bi 3 #[.int .i64 x.val] ∧ BoxC X Bn 42 (ndC (nd ns x.val)))
      (fun _ _ _ => False)
      (OwnFrom.and (grownBy_own (by omega)) (OwnFrom.and (rowG_own _ _ _ _ _ _) (OwnFrom.and (ownFrom_keepsFrom (by omega)) (OwnFrom.and (keeps_own (by omega)) (OwnFrom.and (Own.from (boxC_own _ _ (fun _ => #[Value.int .i64 x.val])) _) (Own.from (boxC_own _ _ (fun _ => ndC (nd ns x.val))) _))))))
      (fun _ _ _ _ _ hs _ _ => hs)
      ⟨hI1, hI2, hkf, hkp, bI, bN⟩
      (fun y a'' _ => a'' = { tmps := #[.agg #[.int .i64 sup, .slice av ns.length cv], .slice au ns.length cu, .slice ax ns.length cx, .pointer (some ⟨w.heap.size, 0, none⟩), .pointer (some ⟨w.heap.size + 1, 0, none⟩), undef, .pointer (some ⟨w.heap.size + 1 + 1, 0, none⟩), .pointer (some ⟨w1.heap.size, 0, none⟩), .pointer (some ⟨Bi, 0, none⟩), .pointer (some ⟨Bn, 0, none⟩), .int .i64 y.val, undef, undef, undef, undef, undef, .slice ax ns.length cx, .slice aw ns.length cw, .pointer (some ⟨w.heap.size, 1, none⟩), .slice av ns.length cv, .func (.func 57) #[] #[.pointer (some ⟨w1.heap.size + 1, 0, none⟩)], .int .i64 x.val, .agg #[.int .i64 (nd ns x.val).p, .int .i64 (nd ns x.val).m, .int .i64 (nd ns x.val).c, .int .i64 (nd ns x.val).l], .agg #[.int .i64 sup, .slice av ns.length cv], .int .i64 x.val, .func (.func 58) #[] #[.pointer (some ⟨W.heap.size, 0, none⟩), .pointer (some ⟨W.heap.size + 1, 0, none⟩)], .int .i64 y.val, undef, undef, undef, undef, undef, undef, undef, undef, undef, undef, undef, undef, undef, undef, undef, undef, undef, undef, undef, undef, undef, undef, undef, undef, undef, undef, undef, undef, undef, undef, undef, undef, undef, undef, undef, undef, undef, undef, undef, undef, undef, undef, undef, undef, undef, undef, undef, undef, undef, undef, undef, undef, undef, undef, undef, undef, undef, undef, undef, undef, undef, undef, undef, undef, undef, undef, undef, undef, undef, undef, undef, undef, undef, undef, undef, undef, undef, undef, undef, undef, undef, undef, undef, undef, undef, undef, undef, undef], defers := [] }) (fun _ _ _ _ _ _ hs _ _ => hs)
      ?iassign ?ibody ?idone ?istop
    case ivn =>
      rintro b hb hn ⟨_, h⟩
      exact hvne b hb hn h
    case imp => rintro ⟨_, h⟩; omega
    case imi => rintro ⟨_, h⟩; omega
    case iassign =>
      rintro l' pre' y X K hI hK
      gi_wp2
      exact hK _ _ (KeepsFrom.refl _ _) (Keeps.refl _ _ _) hI rfl
    case ibody =>
      rintro l' pre' y a'' X hl' _ ⟨k1, k2, k3, k4, k5, k6⟩ rfl hlen'
      have hyl := y.isLt
      have p7 := b7.kept k1 (hrn.out _ (fun h => by have := hglt h; omega))
      have hab := addL_bd (i := x.val) (by rw [hwl.out]; exact hxl) hwb.out pre'
      have hax := hab x.val
      have hay := hab y.val
      have hb30 := bnd_30 (r := pre'.length) (by have := hp.len; omega)
      have hSn2 := addL_snoc x.val ws pre' y
      have hal := addL_len x.val ws pre'
      have cx := k2.cell hxl
      have cy := k2.cell hyl
      unfold adk at hSn2
      generalize addL x.val ws pre' = us at k2 hax hay hSn2 hal cx cy
      have e1 : IntKind.i64.wrap (nth us x.val + nth us y.val) = nth us x.val + nth us y.val := IntWalk.i64_in _ (by omega)
      replace hSn2 := Lib.hid hSn2
      clear hab hal
      obtain ⟨zx, hzx⟩ : ∃ z, nth us x.val = z := ⟨_, rfl⟩
      obtain ⟨zy, hzy⟩ : ∃ z, nth us y.val = z := ⟨_, rfl⟩
      rw [hzx] at hax cx e1
      rw [hzy] at hay cy e1
      replace hzx := Lib.hid hzx
      replace hzy := Lib.hid hzy
      obtain ⟨cap, het, _⟩ := k2.2 h0
      have c7 := p7.cell 0 rfl
      rw [het] at c7
      have cI := k5.cell 0 rfl
      have fx := k2.frozen h0 x.val
      have hxi : ((x.val : Nat) : Int) < (ns.length : Int) := by omega
      have hyi : ((y.val : Nat) : Int) < (ns.length : Int) := by omega
      replace het := Lib.hid het
      gi_wp2_with fail
      refine region_tail_round 10 (by kernel_rfl) (by kernel_rfl) (by kernel_rfl) ?_
      simp only [List.take_succ_cons, List.take_zero, List.drop_succ_cons, List.drop_zero]
      repeat still_step
      refine wpStill_nil ?_
      clear c7 cI cx cy fx p7
      have hbd : Below X.heap.size X X.drew := (Below.refl _ _).drew
      have i1 := grown_drew1 k1
      have i2 := k2.drew
      have hkf2 := keepsFrom_grown (B := W0.heap.size) hbd
      have hkf3 := keepsFrom_grown (B := Wc.heap.size) hbd
      have hkp2 := Keeps.grown (m := fun k => 0 < ns.length ∧ k = g) (B := none) hbd (by simp)
      have i5 := k5.drew
      have i6 := k6.drew
      generalize X.drew = Y at i1 i2 i5 i6 hbd hkf2 hkf3 hkp2 ⊢
      have cx := i2.cell hxl
      have fx := i2.frozen h0 x.val
      go_wp2
      refine ⟨by simp, ?_⟩
      gi_wp2
      refine ⟨hkf3.trans ((KeepsOthers.setCell _ _ _).from _), hkp2.trans (Keeps.setCell _ _ ⟨h0, rfl⟩ (by simp)), (by rw [hrs.out h0] at i1 ⊢; exact grownBy_trans i1 (grownBy_setCell _ _ _)), ?_, k3.trans (hkf2.trans ((KeepsOthers.setCell _ _ _).from _)), k4.trans (hkp2.trans (Keeps.setCell _ _ ⟨h0, rfl⟩ (by simp))), i5.other (by simp; omega) _, i6.other (by simp; omega) _⟩
      rw [hSn2.out, hzx.out, hzy.out]
      exact i2.set x.val _
    case istop =>
      rintro e pre' X _ h
      exact h.elim
    case idone =>
      rintro ys X rfl ⟨k1, k2, k3, k4, k5, k6⟩
      rw [addL_all hp (by rw [hwl.out]; exact hxl)] at k2
      have p7 := b7.kept k1 (hrn.out _ (fun h => by have := hglt h; omega))
      have p4 := b4.kept k1 (hrn.out _ (fun _ => by omega))
      have uX := hu1.kept k1 (fun b hb hn e => hune b hb hn (by rw [hrs.out (by have := hl.len; omega)] at e; cases e; rfl))
      obtain ⟨bu, ou, cpu, heu, hcu⟩ := uX.atN hl.len hxl
      cases heu
      have cl := hcu x.val hxl
      have hlx := hl.r x.val hxl
      have hcx := hp.c x.val hxl
      have hmx := hp.m x.val hxl
      have hwx := hwb.out x.val
      have hch := chP_bd (ns := ns) (i := ((x.val : Nat) : Int)) hwb.out ns.length
      have hn30 := hp.len
      have cx := k2.cell hxl
      rw [nth_set (by rw [hwl.out]; exact hxl), if_pos rfl] at cx
      have hSn3 := hSn.out
      unfold wnt at hSn3
      generalize hA : nth ws x.val + chP ns ws ((x.val : Nat) : Int) ns.length = A at k2 cx hSn3
      have hA2 : 0 ≤ A ∧ A ≤ 31000000000 := by omega
      clear hwx hch hA hcu
      replace hSn3 := Lib.hid hSn3
      have cm : X.cell? ⟨Bn, 1, none⟩ = some (.int .i64 (nd ns x.val).m) := k6.cell 1 rfl
      have cc : X.cell? ⟨Bn, 2, none⟩ = some (.int .i64 (nd ns x.val).c) := k6.cell 2 rfl
      obtain ⟨l, hlz⟩ : ∃ z, nth lv x.val = z := ⟨_, rfl⟩
      obtain ⟨c, hcz⟩ : ∃ z, (nd ns x.val).c = z := ⟨_, rfl⟩
      obtain ⟨mm, hmz⟩ : ∃ z, (nd ns x.val).m = z := ⟨_, rfl⟩
      rw [hlz] at cl hlx
      rw [hcz] at cc hlx hcx
      rw [hmz] at cm hmx
      replace hlz := Lib.hid hlz
      replace hcz := Lib.hid hcz
      replace hmz := Lib.hid hmz
      have e1 : IntKind.i64.wrap (A + c) = A + c := IntWalk.i64_in _ (by omega)
      have e2 : IntKind.i64.wrap (A + c - l) = A + c - l := IntWalk.i64_in _ (by omega)
      obtain ⟨cap, het, _⟩ := k2.2 h0
      have c7 := p7.cell 0 rfl
      rw [het] at c7
      have c4 := p4.cell 0 rfl
      have cI := k5.cell 0 rfl
      have fx := k2.frozen h0 x.val
      have hxi : ((x.val : Nat) : Int) < (ns.length : Int) := by omega
      replace het := Lib.hid het
      gi_wp2_with fail
      refine region_tail_round 18 (by kernel_rfl) (by kernel_rfl) (by kernel_rfl) ?_
      simp only [List.take_succ_cons, List.take_zero, List.drop_succ_cons, List.drop_zero]
      repeat still_step
      refine wpStill_nil ?_
      have hmin : (if A + c - l < mm then A + c - l else mm) = min mm (A + c - l) := by split <;> omega
      rw [hmin]
      clear c7 c4 cI cx fx cl cm cc p7 p4 uX hmin e1 e2
      have hbd : Below X.heap.size X X.drew := (Below.refl _ _).drew
      have i1 := grown_drew1 k1
      have i2 := k2.drew
      have hkf2 := keepsFrom_grown (B := W0.heap.size) hbd
      have hkp2 := Keeps.grown (m := fun k => 0 < ns.length ∧ k = g) (B := none) hbd (by simp)
      generalize X.drew = Y at i1 i2 hbd hkf2 hkp2 ⊢
      have cx := i2.cell hxl
      have fx := i2.frozen h0 x.val
      go_wp2
      refine ⟨by simp, ?_⟩
      gi_wp2
      refine ⟨k3.trans (hkf2.trans ((KeepsOthers.setCell _ _ _).from _)), k4.trans (hkp2.trans (Keeps.setCell _ _ ⟨h0, rfl⟩ (by simp))), (by rw [hrs.out h0] at i1 ⊢; exact grownBy_trans i1 (grownBy_setCell _ _ _)), ?_⟩
      have i3 := i2.set x.val (min mm (A + c - l))
      rw [List.set_set] at i3
      rw [hSn3.out, hlz.out, hcz.out, hmz.out]
      exact i3
  case done =>
    rintro D ys W hD rfl ⟨hI1, hI2⟩ hK
    rw [wG_back _ (Nat.le_refl _)] at hI2
    have p3 := b3.kept hI1 (hrn.out _ (fun _ => by omega))
    have p4 := b4.kept hI1 (hrn.out _ (fun _ => by omega))
    have p6 := b6.kept hI1 (hrn.out _ (fun _ => by omega))
    have p7 := b7.kept hI1 (hrn.out _ (fun h => by have := hglt h; omega))
    have vW := hv1.kept hI1 (fun b hb hn e => hvne b hb hn (by rw [hrs.out hn] at e; cases e; rfl))
    have uW := hu1.kept hI1 (fun b hb hn e => hune b hb hn (by rw [hrs.out (by have := hl.len; omega)] at e; cases e; rfl))
    have xW := hxW.kept hI1 (fun b hb hn e => hxne b hb hn (by rw [hrs.out (by have := hd.len; omega)] at e; cases e; rfl))
    have hbW : Below w.heap.size w W := hb0.grown hI1 hb0.size hrl
    have hWs : W0.heap.size ≤ W.heap.size := hI1.size
    have hglt' := fun h => (hI2.lt h).2
    clear b3 b4 b6 b7 bB hv1 hu1 hxW hrow' hb0 hvne hune hxne hglt hrn hrs hrl
    gi_wp2_with fail
    have hDW := heap_lt hK
    refine wpIn_wide.2 (Code.wp_mono ?post (build_region sup av au ax aw ns.length cv cu cx cw w.heap.size (w.heap.size + 1) (w.heap.size + 1 + 1) w1.heap.size (w1.heap.size + 1) lv [{ target := .collected D, args := #[] }] W p3 p4 uW hl.len hp.len))
    rintro e a X ⟨rfl, Bs, a1, c1, g1, g2, g3, rfl, hBs, bS, r1, r2, r3, n1, n2, n3, nBs, h12, h13, h23, hbX⟩
    have S : MainS w ns.length w1.heap.size Bs D g g1 g2 g3 :=
      ⟨by omega, by have := hbW.size; omega, by omega, fun h => by have := hglt' h; omega, fun h => by have := hglt' h; omega, fun h => by have := hglt' h; omega, h12, h13, h23, by omega, nBs, by omega⟩
    have M0 : MainI w sup av au aw a1 cv cu cw c1 ns.length w1.heap.size Bs D g g1 g2 g3 (wF ns lv dm) ⟨lv, zeros ns.length, zeros ns.length⟩ X :=
      ⟨p3.grown hbX, p4.grown hbX, p6.grown hbX, p7.grown hbX, bS, hI2.grown hbX, r1.low hbW.size, r2.low hbW.size, r3.low hbW.size, (hbX.block D hDW).trans hK, hbW.trans (hbX.mono hbW.size)⟩
    have hwb := wF_bd (lv := lv) (dm := dm) hp hl hd
    have hvg : ∀ b, (Value.slice av ns.length cv).ownBlock = some b → 0 < ns.length → b ≠ g2 := fun b hb hn => by
      obtain ⟨b', q1, q2⟩ := hv.own hn
      rw [hb] at q1
      cases q1
      omega
    have hgv : ∀ (i left : Int) (s : St) (Y : World), MainI w sup av au aw a1 cv cu cw c1 ns.length w1.heap.size Bs D g g1 g2 g3 (wF ns lv dm) s Y → 0 ≤ left → left ≤ 2000000000 →
        Calls Try.prog 56 #[.int .i64 i, .int .i64 left, .pointer (some ⟨w.heap.size, 0, none⟩), .pointer (some ⟨w1.heap.size, 0, none⟩), .pointer (some ⟨Bs, 0, none⟩)] Y
          (GivePost w.heap.size g2 (.slice (some ⟨g2, 0, none⟩) ns.length ns.length) ns.length (gv ns (wF ns lv dm) i (s.tk, left) ns.length) Y) := fun i left s Y M h0 h1 =>
      give_any sup i left _ ns _ (wF ns lv dm) _ _ _ s.tk w.heap.size g2 _ _ _ Y M.b3 M.b7 M.bs (hv.mono M.bl) hp.len (M.rw.num ⟨_, _, rfl⟩) M.rw.1 ⟨_, _, rfl⟩ M.r2 hvg
        (fun b hb hn e => by obtain ⟨cap, q1, _⟩ := M.rw.2 hn; rw [q1] at hb; cases hb; exact S.g02 hn e) hwb h0 h1
    clear p3 p4 p6 p7 hI2 bS r1 r2 r3 uW vW hbX hI1 h12 h13 h23 nBs hvg hwb hglt'
    replace hgv := Lib.hid hgv
    have c30 := M0.b3.cell 0 rfl
    gi_wp2_with fail
    refine ⟨trivial, ?_⟩
    refine (callsIn_wide.2 (hgv.out _ _ _ _ M0 hs0 (by omega))).mono ?_
    rintro e X1 ⟨rfl, hgr, hr2⟩
    have M1 := M0.give S hgr hr2
    clear c30 M0 hgr hr2
    have c31 := M1.b3.cell 1 rfl
    gi_wp2
    clear c31
    gi_loopw [74] (fun q Y => ∃ k : Nat, k ≤ ns.length ∧ q = .int .i64 k ∧ MainI w sup av au aw a1 cv cu cw c1 ns.length w1.heap.size Bs D g g1 g2 g3 (wF ns lv dm) (stT ns sup lv dm (wF ns lv dm) k) Y) (fun q _ => ns.length - (intOf q).toNat)
    case atStart => exact ⟨0, Nat.zero_le _, rfl, M1⟩
    case round =>
      clear M1
      obtain ⟨k, hk, rfl, M⟩ := hrel
      by_cases hlt : k < ns.length
      · have hn0 : 0 < ns.length := by omega
        have hn30 := hp.len
        have hki : (k : Int) < (ns.length : Int) := by omega
        have hlk := hl.r k hlt
        have hck := hp.c k hlt
        have hdk := hd.all k
        have htk := stT_tk_bd (sup := sup) hp hl hd hs0 hk k
        have hstep := stT_next ns sup lv dm (wF ns lv dm) k
        have hl1 := (stT_len (sup := sup) (dm := dm) (ws := wF ns lv dm) hl.len k)
        generalize hSk : stT ns sup lv dm (wF ns lv dm) k = s at M htk hstep hl1
        unfold stNext at hstep
        replace hstep := Lib.hid hstep
        clear hSk
        obtain ⟨bu, ou, cpu, heu, hcu⟩ := (hu.mono M.bl).atN hl.len hlt
        obtain ⟨bx, ox, cpx, hex, hcx⟩ := (hx.mono M.bl).atN hd.len hlt
        obtain ⟨capa, hea, _⟩ := M.r1.2 hn0
        cases heu
        cases hex
        cases hea
        have cu0 := hcu k hlt
        have cx0 := hcx k hlt
        have ct0 := M.r2.cell hlt
        clear hcu hcx
        obtain ⟨l, hlz⟩ : ∃ z, nth lv k = z := ⟨_, rfl⟩
        obtain ⟨d, hdz⟩ : ∃ z, nth dm k = z := ⟨_, rfl⟩
        obtain ⟨tt, htz⟩ : ∃ z, nth s.tk k = z := ⟨_, rfl⟩
        rw [hlz] at cu0 hlk
        rw [hdz] at cx0 hdk
        rw [htz] at ct0 htk
        replace hlz := Lib.hid hlz
        replace hdz := Lib.hid hdz
        replace htz := Lib.hid htz
        have e1 : IntKind.i64.wrap (l + tt) = l + tt := IntWalk.i64_in _ (by omega)
        have c4 := M.b4.cell 0 rfl
        have cs1 := M.bs.cell 1 rfl
        gi_wp2_with fail
        refine wpIn_wide.2 ?_
        go_quiet (fail)
        have M2 := M.drewN nq
        have cx1 : (wr.drewN nq).cell? ⟨bx, ox + k, none⟩ = some (.int .i64 d) := cx0
        clear M c4 cs1 cu0 ct0 cx0 e1
        generalize wr.drewN nq = X2 at M2 cx1 ⊢
        have hmin : (if l + tt < d then l + tt else d) = min d (l + tt) := by split <;> omega
        have hsv : 0 ≤ min d (l + tt) ∧ min d (l + tt) ≤ d ∧ min d (l + tt) ≤ l + tt := by omega
        have e2 : IntKind.i64.wrap (d - min d (l + tt)) = d - min d (l + tt) := IntWalk.i64_in _ (by omega)
        have e3 : IntKind.i64.wrap (l + tt - min d (l + tt)) = l + tt - min d (l + tt) := IntWalk.i64_in _ (by omega)
        have cs2 := M2.bs.cell 2 rfl
        have c3 := M2.r3.cell hlt
        have f3 := M2.r3.frozen hn0 k
        gi_wp2_with fail
        clear hmin
        have hstep2 := hstep.out
        rw [hlz.out, hdz.out, htz.out] at hstep2
        replace hstep2 := Lib.hid hstep2
        generalize min d (l + tt) = sv at hsv e2 e3 hstep2 ⊢
        refine region_tail_wide 10 (by kernel_rfl) (by kernel_rfl) (by kernel_rfl) ?_
        simp only [List.take_succ_cons, List.take_zero, List.drop_succ_cons, List.drop_zero]
        repeat still_step
        refine wpStill_nil ?_
        have M3 := M2.drew
        clear M2 cx1 cs2 c3 f3 e2
        generalize X2.drew = X3 at M3 ⊢
        have c3 := M3.r3.cell hlt
        have f3 := M3.r3.frozen hn0 k
        have M4 := M3.set3 S hlt (d - sv)
        clear M3
        go_wp2
        refine ⟨by simp, ?_⟩
        clear c3 f3
        generalize X3.setCell ⟨g3, k, none⟩ (.int .i64 (d - sv)) = X4 at M4 ⊢
        gi_wp2_with fail
        refine wpIn_wide.2 ?_
        have hgc := hgv.out k (l + tt - sv) _ _ M4.drew (by omega) (by omega)
        have MD := M4.drew
        replace hgc := Lib.hid hgc
        have c0 := M4.bs.cell 0 rfl
        go_region_held3 (fun Y => Y.cell? ⟨Bs, 0, none⟩ = some (.slice (some ⟨g1, 0, none⟩) ns.length c1)) (first | exact MD.bs.cell 0 rfl | exact M5.bs.cell 0 rfl | exact (M5.set1 S hlt _).bs.cell 0 rfl)
          (first | (go_at_call 56; refine hgc.out.mono ?_; rintro e X5 ⟨rfl, hgr, hr2⟩; have M5 := MD.give S hgr hr2; have cc1 := M5.r1.cell hlt; have ff1 := M5.r1.frozen hn0 k; clear hgr hr2))
        have M6 : MainI w sup av (some ⟨bu, ou, none⟩) aw (some ⟨g1, 0, none⟩) cv cu cw c1 ns.length w1.heap.size Bs D g g1 g2 g3 (wF ns lv dm) (stT ns sup lv dm (wF ns lv dm) (k + 1)) (X5.setCell ⟨g1, k, none⟩ (.int .i64 (gv ns (wF ns lv dm) k (s.tk, l + tt - sv) ns.length).2)) := by
          rw [hstep2.out]
          exact M5.set1 S hlt _
        gi_wp2
        go_roundw
        case rel => exact ⟨k + 1, by omega, by go_num, M6⟩
        case measure => simp [intOf]; omega
      · obtain rfl : k = ns.length := by omega
        have d0 := M.bs.cell 0 rfl
        have d1 := M.bs.cell 1 rfl
        have d2 := M.bs.cell 2 rfl
        have z0 := M.b6.cell 0 rfl
        have z1 := M.b6.cell 1 rfl
        have z2 := M.b6.cell 2 rfl
        have y0 := M.b6.frozen 0
        have y1 := M.b6.frozen 1
        have y2 := M.b6.frozen 2
        gi_wp2
        have B6 : BoxC (((wr.setCell ⟨w.heap.size + 1 + 1, 0, none⟩ (.slice a1 ns.length c1)).setCell ⟨w.heap.size + 1 + 1, 1, none⟩ (.slice (some ⟨g2, 0, none⟩) ns.length ns.length)).setCell ⟨w.heap.size + 1 + 1, 2, none⟩ (.slice (some ⟨g3, 0, none⟩) ns.length ns.length)) (w.heap.size + 1 + 1) 44
          #[.slice a1 ns.length c1, .slice (some ⟨g2, 0, none⟩) ns.length ns.length, .slice (some ⟨g3, 0, none⟩) ns.length ns.length] := ((M.b6.set 0 _).set 1 _).set 2 _
        have R1 := ((M.r1.other (p := ⟨w.heap.size + 1 + 1, 0, none⟩) (M.r1.ne_box M.b6 (by decide)) (.slice a1 ns.length c1)).other (p := ⟨w.heap.size + 1 + 1, 1, none⟩) (M.r1.ne_box M.b6 (by decide)) (.slice (some ⟨g2, 0, none⟩) ns.length ns.length)).other (p := ⟨w.heap.size + 1 + 1, 2, none⟩) (M.r1.ne_box M.b6 (by decide)) (.slice (some ⟨g3, 0, none⟩) ns.length ns.length)
        have R2 := ((M.r2.other (p := ⟨w.heap.size + 1 + 1, 0, none⟩) (M.r2.ne_box M.b6 (by decide)) (.slice a1 ns.length c1)).other (p := ⟨w.heap.size + 1 + 1, 1, none⟩) (M.r2.ne_box M.b6 (by decide)) (.slice (some ⟨g2, 0, none⟩) ns.length ns.length)).other (p := ⟨w.heap.size + 1 + 1, 2, none⟩) (M.r2.ne_box M.b6 (by decide)) (.slice (some ⟨g3, 0, none⟩) ns.length ns.length)
        have R3 := ((M.r3.other (p := ⟨w.heap.size + 1 + 1, 0, none⟩) (M.r3.ne_box M.b6 (by decide)) (.slice a1 ns.length c1)).other (p := ⟨w.heap.size + 1 + 1, 1, none⟩) (M.r3.ne_box M.b6 (by decide)) (.slice (some ⟨g2, 0, none⟩) ns.length ns.length)).other (p := ⟨w.heap.size + 1 + 1, 2, none⟩) (M.r3.ne_box M.b6 (by decide)) (.slice (some ⟨g3, 0, none⟩) ns.length ns.length)
        have hDb : D ≠ w.heap.size + 1 + 1 := fun e => by
          have h1 := M.d
          rw [e, show wr.heap[w.heap.size + 1 + 1]? = _ from M.b6] at h1
          cases h1
        have DD := (Below.heap_setCell _ ⟨w.heap.size + 1 + 1, 2, none⟩ (.slice (some ⟨g3, 0, none⟩) ns.length ns.length) D hDb).trans ((Below.heap_setCell _ ⟨w.heap.size + 1 + 1, 1, none⟩ (.slice (some ⟨g2, 0, none⟩) ns.length ns.length) D hDb).trans ((Below.heap_setCell wr ⟨w.heap.size + 1 + 1, 0, none⟩ (.slice a1 ns.length c1) D hDb).trans M.d))
        have BB := ((M.bl.setCell (p := ⟨w.heap.size + 1 + 1, 0, none⟩) (by show w.heap.size ≤ w.heap.size + 1 + 1; omega) (.slice a1 ns.length c1)).setCell (p := ⟨w.heap.size + 1 + 1, 1, none⟩) (by show w.heap.size ≤ w.heap.size + 1 + 1; omega) (.slice (some ⟨g2, 0, none⟩) ns.length ns.length)).setCell (p := ⟨w.heap.size + 1 + 1, 2, none⟩) (by show w.heap.size ≤ w.heap.size + 1 + 1; omega) (.slice (some ⟨g3, 0, none⟩) ns.length ns.length)
        generalize (((wr.setCell ⟨w.heap.size + 1 + 1, 0, none⟩ (.slice a1 ns.length c1)).setCell ⟨w.heap.size + 1 + 1, 1, none⟩ (.slice (some ⟨g2, 0, none⟩) ns.length ns.length)).setCell ⟨w.heap.size + 1 + 1, 2, none⟩ (.slice (some ⟨g3, 0, none⟩) ns.length ns.length)) = Z at B6 R1 R2 R3 DD BB ⊢
        clear d0 d1 d2 z0 z1 z2 y0 y1 y2 M
        have B6' := B6.putObj (.deferred none) DD rfl
        have R1' := (rowG_own (β := Unit) 0 w.heap.size g1 ns.length _ (fun _ => (stT ns sup lv dm (wF ns lv dm) ns.length).lv)).putObj (s := ()) (.deferred none) R1 (Nat.zero_le _) DD rfl
        have R2' := (rowG_own (β := Unit) 0 w.heap.size g2 ns.length _ (fun _ => (stT ns sup lv dm (wF ns lv dm) ns.length).tk)).putObj (s := ()) (.deferred none) R2 (Nat.zero_le _) DD rfl
        have R3' := (rowG_own (β := Unit) 0 w.heap.size g3 ns.length _ (fun _ => (stT ns sup lv dm (wF ns lv dm) ns.length).lk)).putObj (s := ()) (.deferred none) R3 (Nat.zero_le _) DD rfl
        have r0 := B6'.cell 0 rfl
        have r1 := B6'.cell 1 rfl
        have r2 := B6'.cell 2 rfl
        have own1 : ∀ b, 0 < ns.length → (Value.slice a1 ns.length c1).ownBlock = some b → w.heap.size ≤ b := fun b hn hb => by
          obtain ⟨cap, q1, _⟩ := R1.2 hn
          rw [q1] at hb
          cases hb
          exact S.hg1
        refine endM DD (v := .agg #[.slice a1 ns.length c1, .slice (some ⟨g2, 0, none⟩) ns.length ns.length, .slice (some ⟨g3, 0, none⟩) ns.length ns.length]) (by simp [results, Try.f46, go_sem, r0, r1, r2]) ⟨_, _, _, rfl, R1'.num ⟨_, _, rfl⟩, R2'.num ⟨_, _, rfl⟩, R3'.num ⟨_, _, rfl⟩, own1, fun b hn hb => by cases hb; exact (R2.lt hn).1, fun b hn hb => by cases hb; exact (R3.lt hn).1, below_putObj BB _ (by omega) DD⟩
  case stop =>
    rintro D e pre W hD _ h
    exact h.elim
end Go.Proofs.Ytfefocgekmeahaa
