/- The contract of the model's step. Conditions: a right plant, right levels and a right demand. -/
import Derived.Test.YtfefocgekmeahaaW27
import Derived.Test.YtfefocgekmeahaaP7
namespace Go.Proofs.Ytfefocgekmeahaa
open Go.RowKit Go.Shelf
attribute [local go_sem] Oper.semAt_some

/-- the world of the model's step while it counts what is wanted -/
structure MdI (w : World) (sup : Int) (av : Option Addr) (cv n : Nat) (ws : List Int) (X : World) : Prop where
  b3 : BoxC X w.heap.size 24 #[.int .i64 sup, .slice av n cv]
  b6 : BoxC X (w.heap.size + 1) 44 #[.slice none 0 0, .slice none 0 0, .slice none 0 0]
  rw : RowG w.heap.size (w.heap.size + 2) (.slice (some ⟨w.heap.size + 2, 0, none⟩) n n) n ws X
  bl : Below w.heap.size w X
section
variable {w : World} {sup : Int} {av : Option Addr} {cv n : Nat} {ws : List Int} {X X' : World}
theorem MdI.below (h : MdI w sup av cv n ws X) (hb : Below X.heap.size X X') : MdI w sup av cv n ws X' :=
  ⟨h.b3.grown hb, h.b6.grown hb, h.rw.grown hb, h.bl.trans (hb.mono h.bl.size)⟩
theorem MdI.drew (h : MdI w sup av cv n ws X) : MdI w sup av cv n ws X.drew := ⟨h.b3, h.b6, h.rw, h.bl.drew⟩
theorem MdI.set (h : MdI w sup av cv n ws X) (i : Nat) (z : Int) : MdI w sup av cv n (ws.set i z) (X.setCell ⟨w.heap.size + 2, i, none⟩ (.int .i64 z)) :=
  ⟨h.b3.other (by show w.heap.size ≠ w.heap.size + 2; omega) _, h.b6.other (by show w.heap.size + 1 ≠ w.heap.size + 2; omega) _, h.rw.set i z, h.bl.setCell (by show w.heap.size ≤ w.heap.size + 2; omega) _⟩
end
/-- the world of the model's step behind that -/
structure MdJ (w : World) (sup : Int) (av a1 : Option Addr) (cv c1 n Bs g1 g2 g3 : Nat) (ws : List Int) (s : St) (X : World) : Prop where
  b3 : BoxC X w.heap.size 24 #[.int .i64 sup, .slice av n cv]
  b6 : BoxC X (w.heap.size + 1) 44 #[.slice none 0 0, .slice none 0 0, .slice none 0 0]
  bs : BoxC X Bs 44 #[.slice a1 n c1, .slice (some ⟨g2, 0, none⟩) n n, .slice (some ⟨g3, 0, none⟩) n n]
  rw : RowG w.heap.size (w.heap.size + 2) (.slice (some ⟨w.heap.size + 2, 0, none⟩) n n) n ws X
  r1 : RowG w.heap.size g1 (.slice a1 n c1) n s.lv X
  r2 : RowG w.heap.size g2 (.slice (some ⟨g2, 0, none⟩) n n) n s.tk X
  r3 : RowG w.heap.size g3 (.slice (some ⟨g3, 0, none⟩) n n) n s.lk X
  bl : Below w.heap.size w X
structure MdS (w : World) (n g1 g2 g3 : Nat) : Prop where
  h1 : w.heap.size ≤ g1
  g01 : 0 < n → w.heap.size + 2 ≠ g1
  g02 : 0 < n → w.heap.size + 2 ≠ g2
  g03 : 0 < n → w.heap.size + 2 ≠ g3
  g12 : 0 < n → g1 ≠ g2
  g13 : 0 < n → g1 ≠ g3
  g23 : g2 ≠ g3
section
variable {w : World} {sup : Int} {av a1 : Option Addr} {cv c1 n Bs g1 g2 g3 : Nat} {ws : List Int} {s : St} {X X' : World}
theorem MdJ.drew (h : MdJ w sup av a1 cv c1 n Bs g1 g2 g3 ws s X) : MdJ w sup av a1 cv c1 n Bs g1 g2 g3 ws s X.drew := ⟨h.b3, h.b6, h.bs, h.rw, h.r1, h.r2, h.r3, h.bl.drew⟩
theorem MdJ.drewN (h : MdJ w sup av a1 cv c1 n Bs g1 g2 g3 ws s X) (q : Nat) : MdJ w sup av a1 cv c1 n Bs g1 g2 g3 ws s (X.drewN q) := ⟨h.b3, h.b6, h.bs, h.rw, h.r1, h.r2, h.r3, below_drewN h.bl q⟩
theorem MdJ.set1 (S : MdS w n g1 g2 g3) (h : MdJ w sup av a1 cv c1 n Bs g1 g2 g3 ws s X) {i : Nat} (hi : i < n) (z : Int) : MdJ w sup av a1 cv c1 n Bs g1 g2 g3 ws ⟨s.lv.set i z, s.tk, s.lk⟩ (X.setCell ⟨g1, i, none⟩ (.int .i64 z)) := by
  have hn : 0 < n := by omega
  exact ⟨h.b3.other (h.r1.ne_box h.b3 (by decide) hn) _, h.b6.other (h.r1.ne_box h.b6 (by decide) hn) _, h.bs.other (h.r1.ne_box h.bs (by decide) hn) _, h.rw.other (fun hn => (S.g01 hn).symm) _, h.r1.set i z,
    h.r2.other (fun hn => S.g12 hn) _, h.r3.other (fun hn => S.g13 hn) _, h.bl.setCell S.h1 _⟩
theorem MdJ.set2 (S : MdS w n g1 g2 g3) (h : MdJ w sup av a1 cv c1 n Bs g1 g2 g3 ws s X) {i : Nat} (hi : i < n) (z : Int) : MdJ w sup av a1 cv c1 n Bs g1 g2 g3 ws ⟨s.lv, s.tk.set i z, s.lk⟩ (X.setCell ⟨g2, i, none⟩ (.int .i64 z)) := by
  have hn : 0 < n := by omega
  exact ⟨h.b3.other (h.r2.ne_box h.b3 (by decide) hn) _, h.b6.other (h.r2.ne_box h.b6 (by decide) hn) _, h.bs.other (h.r2.ne_box h.bs (by decide) hn) _, h.rw.other (fun hn => (S.g02 hn).symm) _, h.r1.other (fun hn => (S.g12 hn).symm) _, h.r2.set i z,
    h.r3.other (fun _ => S.g23) _, h.bl.setCell (h.r2.lt hn).1 _⟩
theorem MdJ.set3 (S : MdS w n g1 g2 g3) (h : MdJ w sup av a1 cv c1 n Bs g1 g2 g3 ws s X) {i : Nat} (hi : i < n) (z : Int) : MdJ w sup av a1 cv c1 n Bs g1 g2 g3 ws ⟨s.lv, s.tk, s.lk.set i z⟩ (X.setCell ⟨g3, i, none⟩ (.int .i64 z)) := by
  have hn : 0 < n := by omega
  exact ⟨h.b3.other (h.r3.ne_box h.b3 (by decide) hn) _, h.b6.other (h.r3.ne_box h.b6 (by decide) hn) _, h.bs.other (h.r3.ne_box h.bs (by decide) hn) _, h.rw.other (fun hn => (S.g03 hn).symm) _, h.r1.other (fun hn => (S.g13 hn).symm) _,
    h.r2.other (fun _ => S.g23.symm) _, h.r3.set i z, h.bl.setCell (h.r3.lt hn).1 _⟩
end
/-- a list of numbers in a block of numbers -/
def NumT (w : World) (v : Value) (xs : List Int) : Prop := NumSl .i64 w v xs ∧ ∀ b, v.ownBlock = some b → 0 < xs.length → ∃ cs, BoxC w b 3 cs
theorem RowG.numT {base g n : Nat} {v : Value} {xs : List Int} {W : World} (h : RowG base g v n xs W) (hv : ∃ a c, v = .slice a n c) : NumT W v xs := by
  refine ⟨h.num hv, fun b hb hn => ?_⟩
  obtain ⟨cap, rfl, h2⟩ := h.2 (by rw [← h.1]; exact hn)
  cases hb
  rcases h2.2 with ⟨h3, _⟩ | ⟨g', cap', cur, h3, _, h5, _⟩
  · cases h3
  · cases h3
    exact ⟨cur, h5⟩
theorem NumT.mono {w w' : World} {v : Value} {xs : List Int} (h : NumT w v xs) (hb : Below w.heap.size w w') : NumT w' v xs :=
  ⟨h.1.mono hb, fun b h1 h2 => by obtain ⟨cs, h3⟩ := h.2 b h1 h2; exact ⟨cs, h3.grown hb⟩⟩
def StepMPost (S : St) (w : World) (e : Ending) (w' : World) : Prop :=
  ∃ v1 v2 v3 : Value, e = .returned (.agg #[v1, v2, v3]) ∧ NumT w' v1 S.lv ∧ NumT w' v2 S.tk ∧ NumT w' v3 S.lk ∧ Below w.heap.size w w'
theorem wF_of {ns : List Nd} {lv dm us : List Int} (hd : dm.length = ns.length) (h : WInv ns lv dm us ns.length) : us = wF ns lv dm := by
  have hl : (wF ns lv dm).length = ns.length := by unfold wF; rw [wT_len, hd]
  apply List.ext_getElem (by rw [h.len, hl])
  intro j h1 h2
  have := h.hi j (by omega) (by have := h.len; omega)
  rwa [nth_lt h1, nth_lt h2] at this

set_option maxRecDepth 100000 in
set_option maxHeartbeats 8000000 in
theorem stepM_any (sup : Int) (v : Value) (ns : List Nd) (u : Value) (lv : List Int) (x : Value) (dm : List Int) (w : World) (hv : NdSl w v ns) (hu : NumSl .i64 w u lv) (hx : NumSl .i64 w x dm)
    (hp : PlOk ns) (hl : LvOk ns lv) (hd : DmOk ns dm) (hs0 : -1 ≤ sup) (hs1 : sup ≤ 1000000000) :
    Calls Try.prog 33 #[plV sup v, u, x] w (StepMPost (stepF ns sup lv dm) w) := by
  obtain ⟨av, cv, rfl⟩ := hv.len
  obtain ⟨au, cu, hu0⟩ := hu.len
  rw [hl.len] at hu0
  subst hu0
  obtain ⟨ax, cx, hx0⟩ := hx.len
  rw [hd.len] at hx0
  subst hx0
  have hn30 := hp.len
  refine (callsIn_wide (n := 9)).1 ?_
  refine callsIn_of_wp_marks Try.func33 rfl trivial ?_ rfl
  simp only [Try.ntmps33, List.size_toArray, List.length_cons, List.length_nil, Nat.reduceAdd, Nat.reduceSub, Array.replicate_succ, Array.replicate_zero, List.push_toArray, List.append_toArray, List.nil_append, List.cons_append]
  have hb1 : Below w.heap.size w ((w.alloc (.cells #[.int .i64 sup, .slice av ns.length cv] 24)).alloc (.cells #[.slice none 0 0, .slice none 0 0, .slice none 0 0] 44)) := ((Below.refl _ w).alloc (Nat.le_refl _) _).alloc (by simp) _
  have b3 := (BoxC.new w 24 #[.int .i64 sup, .slice av ns.length cv]).alloc (.cells #[.slice none 0 0, .slice none 0 0, .slice none 0 0] 44)
  have b6 := BoxC.new (w.alloc (.cells #[.int .i64 sup, .slice av ns.length cv] 24)) 44 #[.slice none 0 0, .slice none 0 0, .slice none 0 0]
  simp only [World.size_alloc] at b6
  have hmk : ∀ X : World, (Instr.makeSlice 39 (.int .i64 (ns.length : Int)) (.int .i64 (ns.length : Int))).run Try.prog X = .ok (.slice (some ⟨X.heap.size, 0, none⟩) ns.length ns.length) (X.alloc (.cells (madeCells #[.int .i64 0] ns.length) 3)) := run_make39 ns.length (by omega)
  have c1 := b3.cell 1 rfl
  gi_wp2
  clear c1 hmk
  have hrow := rowG_new (base := w.heap.size) (n := ns.length) (X := (w.alloc (.cells #[.int .i64 sup, .slice av ns.length cv] 24)).alloc (.cells #[.slice none 0 0, .slice none 0 0, .slice none 0 0] 44)) (by omega) (by simp; omega)
  rw [show ((w.alloc (.cells #[.int .i64 sup, .slice av ns.length cv] 24)).alloc (.cells #[.slice none 0 0, .slice none 0 0, .slice none 0 0] 44)).heap.size = w.heap.size + 2 by simp] at hrow
  have M0 : MdI w sup av cv ns.length (zeros ns.length) (((w.alloc (.cells #[.int .i64 sup, .slice av ns.length cv] 24)).alloc (.cells #[.slice none 0 0, .slice none 0 0, .slice none 0 0] 44)).alloc (.cells (madeCells #[.int .i64 0] ns.length) 3)) := ⟨b3.alloc _, b6.alloc _, hrow, hb1.alloc (by simp; omega) _⟩
  generalize ((w.alloc (.cells #[.int .i64 sup, .slice av ns.length cv] 24)).alloc (.cells #[.slice none 0 0, .slice none 0 0, .slice none 0 0] 44)).alloc (.cells (madeCells #[.int .i64 0] ns.length) 3) = W0 at M0 ⊢
  clear hb1 b3 b6 hrow
  gi_loopw [9] (fun q W => ∃ z : Int, -1 ≤ z ∧ z < ns.length ∧ q = .int .i64 z ∧ ∃ us, MdI w sup av cv ns.length us W ∧ Hid (WInv ns lv dm us (ns.length - (z + 1).toNat))) (fun q _ => (intOf q + 1).toNat)
  case atStart =>
    refine ⟨(ns.length : Int) - 1, by omega, by omega, rfl, _, M0, ?_⟩
    rw [show ns.length - ((ns.length : Int) - 1 + 1).toNat = 0 by omega]
    exact Lib.hid WInv.start
  case round =>
    clear M0
    obtain ⟨z, hz0, hz1, rfl, us, M, hW⟩ := hrel
    by_cases h0 : 0 ≤ z
    · obtain ⟨i, rfl⟩ : ∃ i : Nat, z = i := ⟨z.toNat, by omega⟩
      have hin : i < ns.length := by omega
      have hn0 : 0 < ns.length := by omega
      have hW1 := hW.out
      rw [show ns.length - ((i : Int) + 1).toNat = ns.length - (i + 1) by omega] at hW1
      have hval := WInv.val hp hd.len hin hW1
      have hwb := wF_bd hp hl hd
      have hui := hW1.lo i (by omega)
      have hub := chQ_bd (ns := ns) (i := (i : Int)) hwb (ns.length - (i + 1))
      rw [← hui] at hub
      have hwi := hwb i
      have hci := hp.c i hin
      have hmi := hp.m i hin
      have hli := hl.r i hin
      have hdi := hd.all i
      have hpi := hp.p i hin
      have hroot := fun h => WInv.root hin hW1 h
      have hchild := fun q h => WInv.child (q := q) hp hin hW1 h
      have hlen := hW1.len
      have hlo := fun q (h : q < i) => hW1.lo q (by omega)
      have hqb := fun q : Nat => chQ_bd (ns := ns) (i := (q : Int)) hwb (ns.length - (i + 1))
      replace hlen := Lib.hid hlen
      replace hroot := Lib.hid hroot
      replace hchild := Lib.hid hchild
      replace hlo := Lib.hid hlo
      replace hqb := Lib.hid hqb
      clear hW hW1 hui hwb
      obtain ⟨bu, ou, cpu, heu, hcu⟩ := (hu.mono M.bl).atN hl.len hin
      obtain ⟨bx, ox, cpx, hex, hcx⟩ := (hx.mono M.bl).atN hd.len hin
      obtain ⟨bv, ov, cpv, hev, hcv⟩ := (hv.mono M.bl).at hin
      cases heu
      cases hex
      cases hev
      have cl := hcu i hin
      have cd := hcx i hin
      obtain ⟨n1, n2, n3, n4⟩ := hcv i hin
      clear hcu hcx hcv
      generalize hnd : nd ns i = y at n1 n2 n3 n4 hval hci hmi hli hpi hroot hchild
      obtain ⟨p, mm, c, l0⟩ := y
      simp only at n1 n2 n3 n4 hval hci hmi hli hpi
      generalize nth lv i = l at cl hval hli
      generalize nth dm i = d at cd hval hdi
      have c31 := M.b3.cell 1 rfl
      have hii : (i : Int) < (ns.length : Int) := by omega
      have MA := M.below ((Below.refl _ wr).alloc (Nat.le_refl _) (.cells #[.int .i64 p, .int .i64 mm, .int .i64 c, .int .i64 l0] 42))
      have bN := BoxC.new wr 42 #[.int .i64 p, .int .i64 mm, .int .i64 c, .int .i64 l0]
      have hA : Below wr.heap.size wr (wr.alloc (.cells #[.int .i64 p, .int .i64 mm, .int .i64 c, .int .i64 l0] 42)) := (Below.refl _ wr).alloc (Nat.le_refl _) _
      replace cl := (hA.cell (p := ⟨bu, ou + i, none⟩) (lt_of_cell cl)).trans cl
      replace cd := (hA.cell (p := ⟨bx, ox + i, none⟩) (lt_of_cell cd)).trans cd
      gi_wp2_with fail
      generalize hA9 : wr.alloc (.cells #[.int .i64 p, .int .i64 mm, .int .i64 c, .int .i64 l0] 42) = WA at MA bN hA cl cd ⊢
      have hBn : wr.heap.size ≠ w.heap.size + 2 := fun e => by have := (M.rw.lt hn0).2; omega
      have hBs := M.bl.size
      clear hA c31 n1 n2 n3 n4
      generalize wr.heap.size = Bn at bN hBn hBs ⊢
      obtain ⟨a, haz⟩ : ∃ a, nth us i = a := ⟨_, rfl⟩
      have cw := MA.rw.cell hin
      rw [haz] at cw hub hval
      replace haz := Lib.hid haz
      have fx := MA.rw.frozen hn0 i
      have cN2 := bN.cell 2 rfl
      have e1 : IntKind.i64.wrap (d + c) = d + c := IntWalk.i64_in _ (by omega)
      have e2 : IntKind.i64.wrap (d + c - l) = d + c - l := IntWalk.i64_in _ (by omega)
      have e3 : IntKind.i64.wrap (a + (d + c - l)) = a + (d + c - l) := IntWalk.i64_in _ (by omega)
      replace hA9 := Lib.hid hA9
      refine region_tail_wide 18 (by kernel_rfl) (by kernel_rfl) (by kernel_rfl) ?_
      simp only [List.take_succ_cons, List.take_zero, List.drop_succ_cons, List.drop_zero]
      repeat still_step
      refine wpStill_nil ?_
      obtain ⟨z, hzz⟩ : ∃ z, a + (d + c - l) = z := ⟨_, rfl⟩
      rw [hzz] at hval ⊢
      have hzb : -1000000000 ≤ z ∧ z ≤ 60000000000 := by omega
      clear cw fx cN2 e1 e2 e3 hzz
      have i2 := MA.drew
      have b2 : BoxC WA.drew Bn 42 #[.int .i64 p, .int .i64 mm, .int .i64 c, .int .i64 l0] := bN
      clear MA bN cl cd hA9
      generalize WA.drew = Y at i2 b2 ⊢
      have cw := i2.rw.cell hin
      have fx := i2.rw.frozen hn0 i
      go_wp2
      refine ⟨by simp, ?_⟩
      have i3 := i2.set i z
      replace b2 := b2.other (p := ⟨w.heap.size + 2, i, none⟩) hBn (.int .i64 z)
      clear cw fx i2
      generalize Y.setCell ⟨w.heap.size + 2, i, none⟩ (.int .i64 z) = Z at i3 b2 ⊢
      have cN1 := b2.cell 1 rfl
      have cz := i3.rw.cell hin
      rw [nth_set (by rw [hlen.out]; exact hin), if_pos rfl] at cz
      gi_wp2_with fail
      refine region_tail_wide 10 (by kernel_rfl) (by kernel_rfl) (by kernel_rfl) ?_
      simp only [List.take_succ_cons, List.take_zero, List.drop_succ_cons, List.drop_zero]
      repeat still_step
      refine wpStill_nil ?_
      have hmin : (if mm < z then mm else z) = min z mm := by split <;> omega
      rw [hmin, hval]
      obtain ⟨f, hf⟩ : ∃ f, nth (wF ns lv dm) i = f := ⟨_, rfl⟩
      rw [hf] at hwi hroot hchild ⊢
      clear hmin hval hf cN1 cz
      have i4 := i3.drew
      replace b2 : BoxC Z.drew Bn 42 #[.int .i64 p, .int .i64 mm, .int .i64 c, .int .i64 l0] := b2
      clear i3
      generalize Z.drew = Y at i4 b2 ⊢
      have cw := i4.rw.cell hin
      have fx := i4.rw.frozen hn0 i
      go_wp2
      refine ⟨by simp, ?_⟩
      have i5 := i4.set i f
      rw [List.set_set] at i5
      replace b2 := b2.other (p := ⟨w.heap.size + 2, i, none⟩) hBn (.int .i64 f)
      clear cw fx i4
      generalize Y.setCell ⟨w.heap.size + 2, i, none⟩ (.int .i64 f) = Z at i5 b2 ⊢
      have cN0 := b2.cell 0 rfl
      by_cases hq : p < 0
      · have hq2 : ¬ 0 ≤ p := by omega
        have hr1 := hroot.out hq
        gi_wp2
        go_roundw
        case rel =>
          refine ⟨(i : Int) - 1, by omega, by omega, by go_num, _, i5, ?_⟩
          rw [show ns.length - ((i : Int) - 1 + 1).toNat = ns.length - i by omega]
          exact Lib.hid hr1
        case measure => first | (simp [intOf]; done) | (simp [intOf]; omega)
      · obtain ⟨q, rfl⟩ : ∃ q : Nat, p = q := ⟨p.toNat, by omega⟩
        have hqi : q < i := by omega
        have hqn : (q : Int) < (ns.length : Int) := by omega
        have hch := hchild.out q rfl
        have hqb1 := hqb.out q
        rw [← hlo.out q hqi] at hqb1
        have cq := i5.rw.cell (i := q) (by omega)
        rw [nth_set (by rw [hlen.out]; omega), if_neg (by omega)] at cq
        have ci := i5.rw.cell hin
        rw [nth_set (by rw [hlen.out]; omega), if_pos rfl] at ci
        replace hch := Lib.hid hch
        obtain ⟨b, hbz⟩ : ∃ b, nth us q = b := ⟨_, rfl⟩
        rw [hbz] at hqb1 cq
        replace hbz := Lib.hid hbz
        have e1 : IntKind.i64.wrap (b + f) = b + f := IntWalk.i64_in _ (by omega)
        clear hroot hchild hqb hlo
        gi_wp2_with fail
        refine region_tail_wide 11 (by kernel_rfl) (by kernel_rfl) (by kernel_rfl) ?_
        simp only [List.take_succ_cons, List.take_zero, List.drop_succ_cons, List.drop_zero]
        repeat still_step
        refine wpStill_nil ?_
        clear cN0 cq ci e1
        have i6 := i5.drew
        clear i5 b2
        generalize Z.drew = Y at i6 ⊢
        have cw := i6.rw.cell (i := q) (by omega)
        have fx := i6.rw.frozen hn0 q
        go_wp2
        refine ⟨by simp, ?_⟩
        have i7 := i6.set q (b + f)
        clear cw fx i6
        generalize Y.setCell ⟨w.heap.size + 2, q, none⟩ (.int .i64 (b + f)) = Z at i7 ⊢
        gi_wp2
        go_roundw
        case rel =>
          refine ⟨(i : Int) - 1, by omega, by omega, by go_num, _, i7, ?_⟩
          rw [show ns.length - ((i : Int) - 1 + 1).toNat = ns.length - i by omega, ← hbz.out]
          exact hch
        case measure => first | (simp [intOf]; done) | (simp [intOf]; omega)
    · obtain rfl : z = -1 := by omega
      have hW1 := hW.out
      rw [show ns.length - ((-1 : Int) + 1).toNat = ns.length by omega] at hW1
      rw [wF_of hd.len hW1] at M
      clear hW hW1
      gi_wp2_with fail
      refine wpIn_wide.2 (Code.wp_mono ?post (md_region sup av au ax ns.length cv cu cx w.heap.size (w.heap.size + 1) (w.heap.size + 1 + 1) lv wr (hu.mono M.bl) hl.len hn30 _ _ _ _ _ _ _ _ _ _ _ _ _ _ _ _ _ _ _ _ _ _ _ _ _ _ _ _ _ _ _ _ _ _ _ _ _ _ _ _ _ _ _ _ _ _ _ _ _ _))
      rintro e a X ⟨rfl, s, Bs, a1, c1, g1, g2, g3, rfl, h8, hBs, bS, r1, r2, r3, q1, q2, q3, h12, h13, h23, hX⟩
      dsimp only
      rw [h8]
      have hws := M.bl.size
      have hlt2 := fun h => (M.rw.lt h).2
      have S : MdS w ns.length g1 g2 g3 := ⟨by omega, fun h => by have := hlt2 h; omega, fun h => by have := hlt2 h; omega, fun h => by have := hlt2 h; omega, h12, h13, h23⟩
      have J : MdJ w sup av a1 cv c1 ns.length Bs g1 g2 g3 (wF ns lv dm) ⟨lv, zeros ns.length, zeros ns.length⟩ X := ⟨M.b3.grown hX, M.b6.grown hX, bS, M.rw.grown hX, r1.low hws, r2.low hws, r3.low hws, M.bl.trans (hX.mono hws)⟩
      clear M bS r1 r2 r3 h12 h13 h23 hX q1 q2 q3 hws hlt2 hBs h8
      have hwb := wF_bd hp hl hd
      have hgl := fun k => gv_lb (ns := ns) (ws := wF ns lv dm) (i := -1) (s := (zeros ns.length, sup)) (fun k => (hwb k).1) hs0 hs1 k
      have hgn := fun k => gv_len (ns := ns) (ws := wF ns lv dm) (i := -1) (s := (zeros ns.length, sup)) k
      replace hgl := Lib.hid hgl
      replace hgn := Lib.hid hgn
      replace hwb := Lib.hid hwb
      have c30 := J.b3.cell 0 rfl
      gi_wp2
      clear c30
      gi_loopw [12, 13] (fun lf q Y => ∃ k : Nat, k ≤ ns.length ∧ q = .int .i64 k ∧ lf = .int .i64 (gv ns (wF ns lv dm) (-1) (zeros ns.length, sup) k).2 ∧ MdJ w sup av a1 cv c1 ns.length Bs g1 g2 g3 (wF ns lv dm) ⟨lv, (gv ns (wF ns lv dm) (-1) (zeros ns.length, sup) k).1, zeros ns.length⟩ Y) (fun _ q _ => ns.length - (intOf q).toNat)
      case atStart => exact ⟨0, Nat.zero_le _, rfl, rfl, J⟩
      case round =>
        clear J
        obtain ⟨k, hk, rfl, rfl, J⟩ := hrel
        by_cases hlt : k < ns.length
        · have hn0 : 0 < ns.length := by omega
          have hki : (k : Int) < (ns.length : Int) := by omega
          have hpk := hp.p k hlt
          have hLb := hgl.out k
          have hwk := hwb.out k
          have hlen := hgn.out k
          have hyes := fun h => gv_yes (ns := ns) (ws := wF ns lv dm) (i := -1) (s := (zeros ns.length, sup)) (k := k) h
          have hno := fun h => gv_no (ns := ns) (ws := wF ns lv dm) (i := -1) (s := (zeros ns.length, sup)) (k := k) h
          obtain ⟨bv, ov, cpv, hev, hcv⟩ := (hv.mono J.bl).at hlt
          cases hev
          obtain ⟨n1, -, -, -⟩ := hcv k hlt
          clear hcv
          have c31 := J.b3.cell 1 rfl
          have cw := J.rw.cell hlt
          generalize nd ns k = nk at n1 hpk hyes hno
          obtain ⟨p, mm, cc, l0⟩ := nk
          simp only at n1 hpk hyes hno hlen
          generalize gv ns (wF ns lv dm) (-1) (zeros ns.length, sup) k = G at J hLb hlen hyes hno ⊢
          obtain ⟨tk, lf⟩ := G
          simp only at J hLb hlen hyes hno ⊢
          rw [zeros_len] at hlen
          replace hlen := Lib.hid hlen
          generalize nth (wF ns lv dm) k = wk at cw hwk hyes
          by_cases hq : p < 0
          · have hp1 : p = -1 := by omega
            have hy := hyes hp1
            replace hy := Lib.hid hy
            clear hyes hno
            have cs1 := J.bs.cell 1 rfl
            have fx := J.r2.frozen hn0 k
            replace hp1 := Lib.hid hp1
            gi_wp2_with fail
            refine region_tail_wide 10 (by kernel_rfl) (by kernel_rfl) (by kernel_rfl) ?_
            simp only [List.take_succ_cons, List.take_zero, List.drop_succ_cons, List.drop_zero]
            repeat still_step
            refine wpStill_nil ?_
            have hmin : (if lf < wk then lf else wk) = min wk lf := by split <;> omega
            rw [hmin]
            have hzb : -1 ≤ min wk lf ∧ min wk lf ≤ lf := by omega
            generalize min wk lf = z at hzb hy ⊢
            clear hmin n1 c31 cw cs1 fx
            have J2 := J.drew
            clear J
            generalize wr.drew = Y at J2 ⊢
            have ct := J2.r2.cell hlt
            have fx := J2.r2.frozen hn0 k
            go_wp2
            refine ⟨by simp, ?_⟩
            have J3 := J2.set2 S hlt z
            clear ct fx J2
            generalize Y.setCell ⟨g2, k, none⟩ (.int .i64 z) = Z at J3 ⊢
            have cs1 := J3.bs.cell 1 rfl
            have ct := J3.r2.cell hlt
            simp only at ct
            rw [nth_set (by rw [hlen.out]; exact hlt), if_pos rfl] at ct
            gi_wp2
            go_roundw
            case rel => exact ⟨k + 1, by omega, by go_num, by rw [hy.out], by rw [hy.out]; exact J3⟩
            case measure => simp [intOf]; omega
          · have hp1 : p ≠ -1 := by omega
            have hy := hno hp1
            replace hy := Lib.hid hy
            clear hyes hno
            gi_wp2
            go_roundw
            case rel => exact ⟨k + 1, by omega, by go_num, by rw [hy.out], by rw [hy.out]; exact J⟩
            case measure => simp [intOf]; omega
        · obtain rfl : k = ns.length := by omega
          clear hgl hgn
          have J0 : MdJ w sup av a1 cv c1 ns.length Bs g1 g2 g3 (wF ns lv dm) (stT ns sup lv dm (wF ns lv dm) 0) wr := J
          clear J
          gi_wp2
          gi_loopw [14] (fun q Y => ∃ k : Nat, k ≤ ns.length ∧ q = .int .i64 k ∧ MdJ w sup av a1 cv c1 ns.length Bs g1 g2 g3 (wF ns lv dm) (stT ns sup lv dm (wF ns lv dm) k) Y) (fun q _ => ns.length - (intOf q).toNat)
          case atStart => exact ⟨0, Nat.zero_le _, rfl, J0⟩
          case round =>
            clear J0
            obtain ⟨k, hk, rfl, J⟩ := hrel
            by_cases hlt : k < ns.length
            · have hn0 : 0 < ns.length := by omega
              have hki : (k : Int) < (ns.length : Int) := by omega
              have hlk := hl.r k hlt
              have hck := hp.c k hlt
              have hdk := hd.all k
              have htk := (stB (sup := sup) hp hl hd hs0 hs1 k hk).tk k
              have hwk := hwb.out k
              have htk2 : nth (stT ns sup lv dm (wF ns lv dm) k).tk k ≤ 1000000000 := by omega
              replace htk := And.intro htk.1 htk2
              clear htk2 hwk
              have hstep := stT_next ns sup lv dm (wF ns lv dm) k
              obtain ⟨hl1, hl2, hl3⟩ := stT_len (sup := sup) (dm := dm) (ws := wF ns lv dm) hl.len k
              generalize stT ns sup lv dm (wF ns lv dm) k = s at J htk hstep hl1 hl2 hl3
              unfold stNext at hstep
              replace hstep := Lib.hid hstep
              replace hl2 := Lib.hid hl2
              clear hl1 hl3
              obtain ⟨bu, ou, cpu, heu, hcu⟩ := (hu.mono J.bl).atN hl.len hlt
              obtain ⟨bx, ox, cpx, hex, hcx⟩ := (hx.mono J.bl).atN hd.len hlt
              cases heu
              cases hex
              have cu0 := hcu k hlt
              have cx0 := hcx k hlt
              have ct0 := J.r2.cell hlt
              clear hcu hcx
              obtain ⟨l, hlz⟩ : ∃ z, nth lv k = z := ⟨_, rfl⟩
              obtain ⟨d, hdz⟩ : ∃ z, nth dm k = z := ⟨_, rfl⟩
              obtain ⟨tt, htz⟩ : ∃ z, nth s.tk k = z := ⟨_, rfl⟩
              rw [hlz] at cu0 hlk
              rw [hdz] at cx0 hdk
              rw [htz] at ct0 htk
              replace hlz := Lib.hid hlz
              replace hdz := Lib.hid hdz
              replace htz := Lib.hid htz
              have e1 : IntKind.i64.wrap (l + tt) = l + tt := IntWalk.i64_in _ (by omega)
              have cs1 := J.bs.cell 1 rfl
              gi_wp2_with fail
              refine wpIn_wide.2 ?_
              go_quiet (fail)
              have J2 := J.drewN nq
              have cx1 : (wr.drewN nq).cell? ⟨bx, ox + k, none⟩ = some (.int .i64 d) := cx0
              clear J cs1 cu0 ct0 cx0 e1
              generalize wr.drewN nq = X2 at J2 cx1 ⊢
              have hmin : (if l + tt < d then l + tt else d) = min d (l + tt) := by split <;> omega
              have hsv : -1 ≤ min d (l + tt) ∧ min d (l + tt) ≤ d ∧ min d (l + tt) ≤ l + tt := by omega
              have e2 : IntKind.i64.wrap (d - min d (l + tt)) = d - min d (l + tt) := IntWalk.i64_in _ (by omega)
              have e3 : IntKind.i64.wrap (l + tt - min d (l + tt)) = l + tt - min d (l + tt) := IntWalk.i64_in _ (by omega)
              have cs2 := J2.bs.cell 2 rfl
              have c3 := J2.r3.cell hlt
              have f3 := J2.r3.frozen hn0 k
              gi_wp2_with fail
              clear hmin
              have hstep2 := hstep.out
              rw [hlz.out, hdz.out, htz.out] at hstep2
              replace hstep2 := Lib.hid hstep2
              generalize min d (l + tt) = sv at hsv e2 e3 hstep2 ⊢
              refine region_tail_wide 10 (by kernel_rfl) (by kernel_rfl) (by kernel_rfl) ?_
              simp only [List.take_succ_cons, List.take_zero, List.drop_succ_cons, List.drop_zero]
              repeat still_step
              refine wpStill_nil ?_
              have J3 := J2.drew
              clear J2 cx1 cs2 c3 f3 e2
              generalize X2.drew = X3 at J3 ⊢
              have c3 := J3.r3.cell hlt
              have f3 := J3.r3.frozen hn0 k
              have J4 := J3.set3 S hlt (d - sv)
              clear J3
              go_wp2
              refine ⟨by simp, ?_⟩
              clear c3 f3
              generalize X3.setCell ⟨g3, k, none⟩ (.int .i64 (d - sv)) = X4 at J4 ⊢
              obtain ⟨H, hH⟩ : ∃ H, l + tt - sv = H := ⟨_, rfl⟩
              have hHb : 0 ≤ H ∧ H ≤ 2000000001 := by omega
              have hstep3 := hstep2.out
              rw [hH] at hstep3
              replace hstep3 := Lib.hid hstep3
              replace hH := Lib.hid hH
              have hsk := gv_skip (ws := wF ns lv dm) hp hlt (s.tk, H)
              have hgl := fun j => gv_left (ns := ns) (ws := wF ns lv dm) (i := (k : Int)) (s := (s.tk, H)) (fun k => (hwb.out k).1) hHb.1 j
              have hc0 := fun j => (chP_bd (ns := ns) (ws := wF ns lv dm) (i := (k : Int)) hwb.out j).1
              have hgn := fun j => gv_len (ns := ns) (ws := wF ns lv dm) (i := (k : Int)) (s := (s.tk, H)) j
              replace hsk := Lib.hid hsk
              replace hgl := Lib.hid hgl
              replace hc0 := Lib.hid hc0
              replace hgn := Lib.hid hgn
              clear hstep hstep2
              gi_wp2
              rw [hH.out]
              clear e3 hsv hlk hck hdk htk
              have J5 : MdJ w sup av a1 cv c1 ns.length Bs g1 g2 g3 (wF ns lv dm) ⟨s.lv, (gv ns (wF ns lv dm) k (s.tk, H) (k + 1)).1, s.lk.set k (d - sv)⟩ X4 := by rw [hsk.out]; exact J4
              have hhs : H = (gv ns (wF ns lv dm) k (s.tk, H) (k + 1)).2 := by rw [hsk.out]
              replace hhs := Lib.hid hhs
              clear J4 hsk
              gi_loopw [15, 17] (fun hs q Y => ∃ j : Nat, k + 1 ≤ j ∧ j ≤ ns.length ∧ q = .int .i64 j ∧ hs = .int .i64 (gv ns (wF ns lv dm) k (s.tk, H) j).2 ∧ MdJ w sup av a1 cv c1 ns.length Bs g1 g2 g3 (wF ns lv dm) ⟨s.lv, (gv ns (wF ns lv dm) k (s.tk, H) j).1, s.lk.set k (d - sv)⟩ Y) (fun _ q _ => ns.length - (intOf q).toNat)
              case atStart => exact ⟨k + 1, Nat.le_refl _, hlt, by go_num, by rw [← hhs.out], J5⟩
              case round =>
                clear J5 hhs
                obtain ⟨j, hkj, hj, rfl, rfl, J⟩ := hrel
                have hleft := hgl.out j
                have hch := hc0.out j
                have hlen := hgn.out j
                try simp only at hleft
                try simp only at hlen
                have hLb : 0 ≤ (gv ns (wF ns lv dm) k (s.tk, H) j).2 ∧ (gv ns (wF ns lv dm) k (s.tk, H) j).2 ≤ 2000000001 := by omega
                clear hleft hch
                rw [hl2.out] at hlen
                by_cases hlj : j < ns.length
                · have hji : (j : Int) < (ns.length : Int) := by omega
                  have hpj := hp.p j hlj
                  have hwj := hwb.out j
                  have hyes := fun h => gv_yes (ns := ns) (ws := wF ns lv dm) (i := (k : Int)) (s := (s.tk, H)) (k := j) h
                  have hno := fun h => gv_no (ns := ns) (ws := wF ns lv dm) (i := (k : Int)) (s := (s.tk, H)) (k := j) h
                  obtain ⟨bv, ov, cpv, hev, hcv⟩ := (hv.mono J.bl).at hlj
                  cases hev
                  obtain ⟨n1, -, -, -⟩ := hcv j hlj
                  clear hcv
                  have c31 := J.b3.cell 1 rfl
                  have cw := J.rw.cell hlj
                  generalize nd ns j = nj at n1 hpj hyes hno
                  obtain ⟨p, mm, cc, l0⟩ := nj
                  simp only at n1 hpj hyes hno
                  generalize gv ns (wF ns lv dm) k (s.tk, H) j = G at J hLb hlen hyes hno ⊢
                  obtain ⟨tk, lf⟩ := G
                  try simp only at J
                  try simp only at hLb
                  try simp only at hlen
                  try simp only at hyes
                  try simp only at hno
                  try simp only
                  replace hlen := Lib.hid hlen
                  generalize nth (wF ns lv dm) j = wj at cw hwj hyes
                  by_cases hq : p = (k : Int)
                  · have hy := hyes hq
                    have hqb : (p == (k : Int)) = true := by simp [hq]
                    replace hy := Lib.hid hy
                    replace hq := Lib.hid hq
                    clear hyes hno
                    have cs1 := J.bs.cell 1 rfl
                    have fx := J.r2.frozen hn0 j
                    gi_wp2_with fail
                    refine region_tail_wide 10 (by kernel_rfl) (by kernel_rfl) (by kernel_rfl) ?_
                    simp only [List.take_succ_cons, List.take_zero, List.drop_succ_cons, List.drop_zero]
                    repeat still_step
                    refine wpStill_nil ?_
                    have hmin : (if lf < wj then lf else wj) = min wj lf := by split <;> omega
                    rw [hmin]
                    have hzb : 0 ≤ min wj lf ∧ min wj lf ≤ lf := by omega
                    generalize min wj lf = z at hzb hy ⊢
                    clear hmin n1 c31 cw cs1 fx
                    have J2 := J.drew
                    clear J
                    generalize wr.drew = Y at J2 ⊢
                    have ct := J2.r2.cell hlj
                    have fx := J2.r2.frozen hn0 j
                    go_wp2
                    refine ⟨by simp, ?_⟩
                    have J3 := J2.set2 S hlj z
                    clear ct fx J2
                    generalize Y.setCell ⟨g2, j, none⟩ (.int .i64 z) = Z at J3 ⊢
                    have cs1 := J3.bs.cell 1 rfl
                    have ct := J3.r2.cell hlj
                    simp only at ct
                    rw [nth_set (by rw [hlen.out]; exact hlj), if_pos rfl] at ct
                    gi_wp2
                    go_roundw
                    case rel => exact ⟨j + 1, by omega, by omega, by go_num, by rw [hy.out], by rw [hy.out]; exact J3⟩
                    case measure => simp [intOf]; omega
                  · have hy := hno hq
                    have hqb : (p == (k : Int)) = false := by simp [hq]
                    replace hy := Lib.hid hy
                    clear hyes hno
                    gi_wp2
                    go_roundw
                    case rel => exact ⟨j + 1, by omega, by omega, by go_num, by rw [hy.out], by rw [hy.out]; exact J⟩
                    case measure => simp [intOf]; omega
                · obtain rfl : j = ns.length := by omega
                  clear hgl hc0 hgn hlen
                  have cs0 := J.bs.cell 0 rfl
                  obtain ⟨cap1, hea, -⟩ := J.r1.2 hn0
                  cases hea
                  have ff1 := J.r1.frozen hn0 k
                  have cc1 := J.r1.cell hlt
                  generalize hG : gv ns (wF ns lv dm) k (s.tk, H) ns.length = G at J hLb hstep3 ⊢
                  obtain ⟨tk, lf⟩ := G
                  try simp only at J
                  try simp only at hLb
                  try simp only at hstep3
                  try simp only at cc1
                  try simp only
                  have J6 := J.set1 S hlt lf
                  replace hG := Lib.hid hG
                  clear J
                  gi_wp2
                  go_roundw
                  case rel => exact ⟨k + 1, by omega, by go_num, by rw [hstep3.out]; exact J6⟩
                  case measure => simp [intOf]; omega
            · obtain rfl : k = ns.length := by omega
              have d0 := J.bs.cell 0 rfl
              have d1 := J.bs.cell 1 rfl
              have d2 := J.bs.cell 2 rfl
              have z0 := J.b6.cell 0 rfl
              have z1 := J.b6.cell 1 rfl
              have z2 := J.b6.cell 2 rfl
              have y0 := J.b6.frozen 0
              have y1 := J.b6.frozen 1
              have y2 := J.b6.frozen 2
              gi_wp2
              have B6 : BoxC (((wr.setCell ⟨w.heap.size + 1, 0, none⟩ (.slice a1 ns.length c1)).setCell ⟨w.heap.size + 1, 1, none⟩ (.slice (some ⟨g2, 0, none⟩) ns.length ns.length)).setCell ⟨w.heap.size + 1, 2, none⟩ (.slice (some ⟨g3, 0, none⟩) ns.length ns.length)) (w.heap.size + 1) 44
                #[.slice a1 ns.length c1, .slice (some ⟨g2, 0, none⟩) ns.length ns.length, .slice (some ⟨g3, 0, none⟩) ns.length ns.length] := ((J.b6.set 0 _).set 1 _).set 2 _
              have R1 := ((J.r1.other (p := ⟨w.heap.size + 1, 0, none⟩) (J.r1.ne_box J.b6 (by decide)) (.slice a1 ns.length c1)).other (p := ⟨w.heap.size + 1, 1, none⟩) (J.r1.ne_box J.b6 (by decide)) (.slice (some ⟨g2, 0, none⟩) ns.length ns.length)).other (p := ⟨w.heap.size + 1, 2, none⟩) (J.r1.ne_box J.b6 (by decide)) (.slice (some ⟨g3, 0, none⟩) ns.length ns.length)
              have R2 := ((J.r2.other (p := ⟨w.heap.size + 1, 0, none⟩) (J.r2.ne_box J.b6 (by decide)) (.slice a1 ns.length c1)).other (p := ⟨w.heap.size + 1, 1, none⟩) (J.r2.ne_box J.b6 (by decide)) (.slice (some ⟨g2, 0, none⟩) ns.length ns.length)).other (p := ⟨w.heap.size + 1, 2, none⟩) (J.r2.ne_box J.b6 (by decide)) (.slice (some ⟨g3, 0, none⟩) ns.length ns.length)
              have R3 := ((J.r3.other (p := ⟨w.heap.size + 1, 0, none⟩) (J.r3.ne_box J.b6 (by decide)) (.slice a1 ns.length c1)).other (p := ⟨w.heap.size + 1, 1, none⟩) (J.r3.ne_box J.b6 (by decide)) (.slice (some ⟨g2, 0, none⟩) ns.length ns.length)).other (p := ⟨w.heap.size + 1, 2, none⟩) (J.r3.ne_box J.b6 (by decide)) (.slice (some ⟨g3, 0, none⟩) ns.length ns.length)
              have BB := ((J.bl.setCell (p := ⟨w.heap.size + 1, 0, none⟩) (by show w.heap.size ≤ w.heap.size + 1; omega) (.slice a1 ns.length c1)).setCell (p := ⟨w.heap.size + 1, 1, none⟩) (by show w.heap.size ≤ w.heap.size + 1; omega) (.slice (some ⟨g2, 0, none⟩) ns.length ns.length)).setCell (p := ⟨w.heap.size + 1, 2, none⟩) (by show w.heap.size ≤ w.heap.size + 1; omega) (.slice (some ⟨g3, 0, none⟩) ns.length ns.length)
              generalize (((wr.setCell ⟨w.heap.size + 1, 0, none⟩ (.slice a1 ns.length c1)).setCell ⟨w.heap.size + 1, 1, none⟩ (.slice (some ⟨g2, 0, none⟩) ns.length ns.length)).setCell ⟨w.heap.size + 1, 2, none⟩ (.slice (some ⟨g3, 0, none⟩) ns.length ns.length)) = Z at B6 R1 R2 R3 BB ⊢
              clear d0 d1 d2 z0 z1 z2 y0 y1 y2 J
              have e0 := B6.cell 0 rfl
              have e1 := B6.cell 1 rfl
              have e2 := B6.cell 2 rfl
              exact endM0 (v := .agg #[.slice a1 ns.length c1, .slice (some ⟨g2, 0, none⟩) ns.length ns.length, .slice (some ⟨g3, 0, none⟩) ns.length ns.length]) (by simp [results, Try.f33, go_sem, e0, e1, e2]) ⟨_, _, _, rfl, R1.numT ⟨_, _, rfl⟩, R2.numT ⟨_, _, rfl⟩, R3.numT ⟨_, _, rfl⟩, BB⟩
end Go.Proofs.Ytfefocgekmeahaa
