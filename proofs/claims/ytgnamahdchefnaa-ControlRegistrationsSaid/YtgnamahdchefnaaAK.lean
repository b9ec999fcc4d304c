/- The contract of known. Conditions: none. -/
import Derived.Test.YtgnamahdchefnaaPA
import Derived.Test.YtgnamahdchefnaaAE
import Derived.KernelRfl
import Derived.Test.YtgnamahdchefnaaB1
import Derived.Test.YtgnamahdchefnaaB7
namespace Go.Proofs.Ytgnamahdchefnaa
open Go.RowKit Go.Shelf

def kEv : List Ev := [⟨1, 0, 1⟩, ⟨6, 0, 0⟩, ⟨9, 0, 0⟩, ⟨4, 0, 0⟩]
def kT : St := afterF exC (startF exC) kEv
theorem kT_d : kT.d.s = [2, 0] := by kernel_rfl
theorem kT_p : kT.p.length = 3 := by kernel_rfl
theorem kU_pos : posF exC kT 10 0 0 = 0 := by kernel_rfl
def kU : St := doF exC kT 10 0 0
theorem kU_d : kU.d.s = [0, 0] := by kernel_rfl
theorem kT_pos : AllPos exC (startF exC) kEv := fun k hk => by
  have h4 : k < 4 := hk
  rcases (by omega : k = 0 ∨ k = 1 ∨ k = 2 ∨ k = 3) with rfl | rfl | rfl | rfl <;> (show posF _ _ _ _ _ = 0; kernel_rfl)
theorem kT_sound : SoundP exC kT := after_sound exC_ok _ _ (start_sound exC_ok)
end Go.Proofs.Ytgnamahdchefnaa
namespace Go.Proofs.Ytgnamahdchefnaa
open Go.RowKit Go.Shelf

theorem ev_lit {w : World} {b : Nat} {ls : List Ev} {cs : Array Value} (h : BoxC w b 28 cs) (hc : ∀ i, i < ls.length → cs[i * 3]? = some (.int .i64 (get ls i).k) ∧ cs[i * 3 + 1]? = some (.int .i64 (get ls i).d) ∧ cs[i * 3 + 2]? = some (.int .i64 (get ls i).i)) : EvSl w (.slice (some ⟨b, 0, none⟩) ls.length ls.length) ls :=
  .inr ⟨b, 0, ls.length, rfl, fun i hi => ⟨h.cell (0 + i * 3) (by rw [Nat.zero_add]; exact (hc i hi).1), h.cell (0 + i * 3 + 1) (by rw [Nat.zero_add]; exact (hc i hi).2.1), h.cell (0 + i * 3 + 2) (by rw [Nat.zero_add]; exact (hc i hi).2.2)⟩⟩
set_option linter.unusedVariables false in
set_option maxRecDepth 100000 in
set_option maxHeartbeats 4000000 in
theorem known_any (w : World) : Calls Try.prog 7 #[] w (BoolBelow true w) := by
  have hex := Lib.hid (fun X => Example_any X)
  have hstr := Lib.hid (fun (x y : Value) (X : World) h => Start_any x y exC X exC_ok h)
  have hrun := Lib.hid (fun (x y xd xg xv xp ve : Value) (X : World) h1 h2 h3 => (show Calls Try.prog 12 #[conV x y exC.co exC.ge exC.lv, stV xd (startF exC).d.c (startF exC).d.o (startF exC).l xg xv xp, ve] X (RunRes kT X) from Run_ok x y xd xg xv xp ve exC (startF exC) kEv X exC_ok h1 h2 (start_sound exC_ok) h3 (by decide) kT_pos))
  have hdo := Lib.hid (fun (x y xd xg xv xp : Value) (X : World) h1 h2 => Do_any x y xd xg xv xp exC kT 10 0 0 X exC_ok h1 h2 kT_sound)
  go_enter Try.func7, Try.ntmps7
  go_wp2_with fail
  refine (hex.out _).mono ?_
  rintro e w1 ⟨x, y, rfl, hc1, hb1⟩
  obtain ⟨a1, c1, rfl⟩ := hc1.s.lenV (n := 2) rfl
  obtain ⟨a2, c2, rfl⟩ := hc1.d.lenV (n := 2) rfl
  have hB1 := (Below.refl w1.heap.size w1).alloc (Nat.le_refl _) (.cells #[.slice a1 2 c1, .int .i64 exC.co, .int .i64 exC.ge, .slice a2 2 c2, .int .i64 exC.lv] 32)
  have b1 := BoxC.new w1 32 #[.slice a1 2 c1, .int .i64 exC.co, .int .i64 exC.ge, .slice a2 2 c2, .int .i64 exC.lv]
  have hc2 := hc1.mono hB1
  have hbA := hb1.trans (hB1.mono hb1.size)
  clear hc1
  go_wp2_with fail
  generalize w1.alloc (.cells #[.slice a1 2 c1, .int .i64 exC.co, .int .i64 exC.ge, .slice a2 2 c2, .int .i64 exC.lv] 32) = W1 at hB1 b1 hc2 hbA ⊢
  generalize w1.heap.size = B1 at b1 hB1 ⊢
  refine (hstr.out _ _ _ hc2).mono ?_
  rintro e w2 ⟨xd, xg, xv, xp, κ, rfl, hO, hb2⟩
  have hS := hO.rd
  obtain ⟨g1, q1, rfl⟩ := hO.d.len
  obtain ⟨g2, q2, rfl⟩ := SlOf.len hO.g.rd
  obtain ⟨g3, q3, rfl⟩ := SlOf.len hO.v.rd
  obtain ⟨g4, q4, rfl⟩ := hO.p.rd.len
  clear hO
  have b2 := b1.grown hb2
  have p0 := b2.cell 0 rfl
  have p1 := b2.cell 1 rfl
  have p2 := b2.cell 2 rfl
  have p3 := b2.cell 3 rfl
  have p4 := b2.cell 4 rfl
  have hl2 := b2.lt
  go_wp2_with fail
  have hB3 := ((Below.refl w2.heap.size w2).alloc (Nat.le_refl _) (.cells #[.slice g1 (startF exC).d.s.length q1, .int .u64 (startF exC).d.c, .int .u64 (startF exC).d.o, .int .i64 (startF exC).l, .slice g2 (startF exC).g.length q2, .slice g3 (startF exC).v.length q3, .slice g4 (startF exC).p.length q4] 42)).alloc (by simp) (.cells #[.int .i64 1, .int .i64 0, .int .i64 1, .int .i64 6, .int .i64 0, .int .i64 0, .int .i64 9, .int .i64 0, .int .i64 0, .int .i64 4, .int .i64 0, .int .i64 0] 28)
  have bE := BoxC.new (w2.alloc (.cells #[.slice g1 (startF exC).d.s.length q1, .int .u64 (startF exC).d.c, .int .u64 (startF exC).d.o, .int .i64 (startF exC).l, .slice g2 (startF exC).g.length q2, .slice g3 (startF exC).v.length q3, .slice g4 (startF exC).p.length q4] 42)) 28 #[.int .i64 1, .int .i64 0, .int .i64 1, .int .i64 6, .int .i64 0, .int .i64 0, .int .i64 9, .int .i64 0, .int .i64 0, .int .i64 4, .int .i64 0, .int .i64 0]
  simp only [World.size_alloc] at bE
  have hev := ev_lit (ls := kEv) bE (fun i hi => by
    have h4 : i < 4 := hi
    rcases (by omega : i = 0 ∨ i = 1 ∨ i = 2 ∨ i = 3) with rfl | rfl | rfl | rfl <;> exact ⟨rfl, rfl, rfl⟩)
  have b3 := b2.grown hB3
  have hc3 := (hc2.mono hb2).mono hB3
  have hbB := (hbA.trans (hb2.mono hbA.size))
  have hbC := hbB.trans (hB3.mono hbB.size)
  refine (hrun.out _ _ _ _ _ _ _ _ hc3 (hS.mono hB3) hev).mono ?_
  clear bE hev hB3 hbB hbA b1 b2 hc2 hS hb2 p0 p1 p2 p3 p4 hl2
  rintro e w3 ⟨yd, yg, yv, yp, κ3, rfl, hO3, hb3⟩
  have hT := hO3.rd
  have hTd := hT.d
  obtain ⟨h1, r1, rfl⟩ := hTd.lenV (n := 2) (by rw [kT_d]; rfl)
  rw [kT_d] at hTd
  obtain ⟨h2, r2, rfl⟩ := SlOf.len hO3.g.rd
  obtain ⟨h3, r3, rfl⟩ := SlOf.len hO3.v.rd
  obtain ⟨h4, r4, rfl⟩ := hO3.p.rd.lenN kT_p
  clear hO3
  have b4 := b3.grown hb3
  have hB4 := (Below.refl w3.heap.size w3).alloc (Nat.le_refl _) (.cells #[.slice h1 2 r1, .int .u64 kT.d.c, .int .u64 kT.d.o, .int .i64 kT.l, .slice h2 kT.g.length r2, .slice h3 kT.v.length r3, .slice h4 3 r4] 42)
  have b5 := b4.grown hB4
  have bT := BoxC.new w3 42 #[.slice h1 2 r1, .int .u64 kT.d.c, .int .u64 kT.d.o, .int .i64 kT.l, .slice h2 kT.g.length r2, .slice h3 kT.v.length r3, .slice h4 3 r4]
  have hT4 := hT.mono hB4
  have hTd4 := hTd.mono hB4
  have hc4 := (hc3.mono hb3).mono hB4
  have hbD := hbC.trans (hb3.mono hbC.size)
  have hbE := hbD.trans (hB4.mono hbD.size)
  clear hT hTd hc3 b3 b4 hbC hbD hb3
  go_wp2_with fail
  have hB6 := (Below.refl (w3.alloc (.cells #[.slice h1 2 r1, .int .u64 kT.d.c, .int .u64 kT.d.o, .int .i64 kT.l, .slice h2 kT.g.length r2, .slice h3 kT.v.length r3, .slice h4 3 r4] 42)).heap.size (w3.alloc (.cells #[.slice h1 2 r1, .int .u64 kT.d.c, .int .u64 kT.d.o, .int .i64 kT.l, .slice h2 kT.g.length r2, .slice h3 kT.v.length r3, .slice h4 3 r4] 42))).alloc (Nat.le_refl _) (.cells #[.int .u64 2, .int .u64 0] 35)
  have bL := BoxC.new (w3.alloc (.cells #[.slice h1 2 r1, .int .u64 kT.d.c, .int .u64 kT.d.o, .int .i64 kT.l, .slice h2 kT.g.length r2, .slice h3 kT.v.length r3, .slice h4 3 r4] 42)) 35 #[.int .u64 2, .int .u64 0]
  simp only [World.size_alloc] at bL
  have hlit := num_lit (K := .u64) (xs := [2, 0]) bL (fun i hi => by
    match i, hi with
    | 0, _ => rfl
    | 1, _ => rfl)
  have heq := slEqual_any (.slice h1 2 r1) _ [2, 0] [2, 0] _ (hTd4.mono hB6) hlit (by simp)
  refine heq.mono ?_
  rintro e w5 ⟨rfl, hb6⟩
  have hB7 := hB6.trans (hb6.mono hB6.size)
  have b6 := b5.grown hB7
  have bT6 := bT.grown hB7
  have hc6 := hc4.mono hB7
  have hT6 := hT4.mono hB7
  have hbF := hbE.trans (hB7.mono hbE.size)
  clear heq hlit bL hB6 hb6 hB7 b5 bT hc4 hT4 hTd4 hbE hB4
  have p0 := b6.cell 0 rfl
  have p1 := b6.cell 1 rfl
  have p2 := b6.cell 2 rfl
  have p3 := b6.cell 3 rfl
  have p4 := b6.cell 4 rfl
  have t0 := bT6.cell 0 rfl
  have t1 := bT6.cell 1 rfl
  have t2 := bT6.cell 2 rfl
  have t3 := bT6.cell 3 rfl
  have t4 := bT6.cell 4 rfl
  have t5 := bT6.cell 5 rfl
  have t6 := bT6.cell 6 rfl
  go_wp2_with fail
  refine (hdo.out _ _ _ _ _ _ _ hc6 hT6).mono ?_
  clear p0 p1 p2 p3 p4 t0 t1 t2 t3 t4 t5 t6 b6 bT6 hc6 hT6
  rintro e w6 ⟨hb7, ⟨hbad, -⟩ | ⟨-, zd, zg, zv, zp, κ4, rfl, hO6⟩⟩
  · exact absurd kU_pos hbad
  have hUd : (doF exC kT 10 0 0).d.s = [0, 0] := kU_d
  generalize doF exC kT 10 0 0 = U at hO6 hUd ⊢
  have hU := hO6.rd.d
  obtain ⟨m1, n1, rfl⟩ := hU.lenV (n := 2) (by rw [hUd]; rfl)
  rw [hUd] at hU
  obtain ⟨m2, n2, rfl⟩ := SlOf.len hO6.g.rd
  obtain ⟨m3, n3, rfl⟩ := SlOf.len hO6.v.rd
  obtain ⟨m4, n4, rfl⟩ := hO6.p.rd.len
  replace hUd := Lib.hid hUd
  clear hO6
  have hB8 := (Below.refl w6.heap.size w6).alloc (Nat.le_refl _) (.cells #[.slice m1 2 n1, .int .u64 U.d.c, .int .u64 U.d.o, .int .i64 U.l, .slice m2 U.g.length n2, .slice m3 U.v.length n3, .slice m4 U.p.length n4] 42)
  have hB9 := hB8.alloc (by simp) (.cells #[.int .u64 0, .int .u64 0] 35)
  have bL := BoxC.new (w6.alloc (.cells #[.slice m1 2 n1, .int .u64 U.d.c, .int .u64 U.d.o, .int .i64 U.l, .slice m2 U.g.length n2, .slice m3 U.v.length n3, .slice m4 U.p.length n4] 42)) 35 #[.int .u64 0, .int .u64 0]
  simp only [World.size_alloc] at bL
  have hlit := num_lit (K := .u64) (xs := [0, 0]) bL (fun i hi => by
    match i, hi with
    | 0, _ => rfl
    | 1, _ => rfl)
  have heq := slEqual_any (.slice m1 2 n1) _ [0, 0] [0, 0] _ (hU.mono hB9) hlit (by simp)
  have hbG := hbF.trans (hb7.mono hbF.size)
  have hbH := hbG.trans (hB9.mono hbG.size)
  go_wp2_with fail
  refine heq.mono ?_
  rintro e w7 ⟨rfl, hb8⟩
  go_wp2
  go_ret
  exact ⟨rfl, hbH.trans (hb8.mono hbH.size)⟩
end Go.Proofs.Ytgnamahdchefnaa
