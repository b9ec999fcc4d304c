/- Contracts of divisionals and Sound for sound states. Conditions: consoles of plans, sound states. -/
import Derived.Test.YtgnamahdchefnaaW2
namespace Go.Proofs.Ytgnamahdchefnaa
open Go.RowKit Go.Shelf

set_option maxHeartbeats 4000000 in
theorem wide53_any (n : Int) (B I : Nat) (a a2 : Option Addr) (cap cap2 : Nat) (C : Con) (i m : Nat) (w : World) (hs : NumSl .i64 w (.slice a C.s.length cap) C.s) (hi : i < C.s.length) (hm : nth C.s i = (m : Int)) (hm4 : m ≤ 4)
    (bP : BoxC w B 32 #[.slice a C.s.length cap, .int .i64 C.co, .int .i64 C.ge, .slice a2 C.s.length cap2, .int .i64 C.lv]) (bI : BoxC w I 3 #[.int .i64 i]) :
    Calls Try.prog 53 #[.int .u64 n, .pointer (some ⟨B, 0, none⟩), .pointer (some ⟨I, 0, none⟩)] w (BoolBelow (n / 2 ^ m != 0) w) := by
  obtain ⟨b, off, cap', he, hc⟩ := hs.at hi
  cases he
  have hck := hc i hi
  rw [hm] at hck
  have p0 := bP.cell 0 rfl
  have i0 := bI.cell 0 rfl
  have hki : (i : Int) < (C.s.length : Int) := by omega
  obtain ⟨F, hF⟩ : ∃ F, (n / 2 ^ m != 0) = F := ⟨_, rfl⟩
  rw [hF]
  clear hc hm
  go_enter Try.func53, Try.ntmps53
  go_wp2
  go_ret
  exact ⟨rfl, Below.refl _ _⟩

set_option maxHeartbeats 4000000 in
theorem divisionals_ok (x y xd xg xv xp : Value) (C : Con) (c o l : Int) (vs : List (List (List Int))) (w : World) (hC : C.Ok) (hr : ConR w x y C) (hv : DivSl w xv vs) (hn : (vs.length : Int) = C.lv) (hl : ∀ i, i < vs.length → (get vs i).length = C.s.length)
    (hd : ∀ i j, i < vs.length → j < C.s.length → ((get (get vs i) j).length : Int) = nth C.d j)
    (hb : ∀ i j k, i < vs.length → j < C.s.length → k < (get (get vs i) j).length → 0 ≤ nth (get (get vs i) j) k ∧ nth (get (get vs i) j) k < 2 ^ (nth C.s j).toNat)
    (hxd : ∃ a n q, xd = .slice a n q) (hxg : ∃ a n q, xg = .slice a n q) (hxp : ∃ a n q, xp = .slice a n q) :
    Calls Try.prog 48 #[conV x y C.co C.ge C.lv, stV xd c o l xg xv xp] w (IntBelow 0 w) := by
  have hlv := hC.lv
  have hln : vs.length ≤ 2 := by omega
  have hB := ((Below.refl w.heap.size w).alloc (Nat.le_refl _) (.cells #[x, .int .i64 C.co, .int .i64 C.ge, y, .int .i64 C.lv] 32)).alloc (by simp) (.cells #[xd, .int .u64 c, .int .u64 o, .int .i64 l, xg, xv, xp] 42)
  have bP := (BoxC.new w 32 #[x, .int .i64 C.co, .int .i64 C.ge, y, .int .i64 C.lv]).alloc (.cells #[xd, .int .u64 c, .int .u64 o, .int .i64 l, xg, xv, xp] 42)
  have bR := BoxC.new (w.alloc (.cells #[x, .int .i64 C.co, .int .i64 C.ge, y, .int .i64 C.lv] 32)) 42 #[xd, .int .u64 c, .int .u64 o, .int .i64 l, xg, xv, xp]
  simp only [World.size_alloc] at bR
  obtain ⟨a, cap, rfl⟩ := hr.s.len
  obtain ⟨a2, cap2, rfl⟩ := hr.d.lenV hC.dl
  obtain ⟨a3, cap3, rfl⟩ := SlOf.len hv
  obtain ⟨a4, n4, cap4, rfl⟩ := hxd
  obtain ⟨a5, n5, cap5, rfl⟩ := hxg
  obtain ⟨a6, n6, cap6, rfl⟩ := hxp
  have hn3 := hC.n
  have hcs := hC.s
  have hcd := hC.d
  have hcdl := hC.dl
  rw [← hn] at hB bP bR ⊢
  replace hb := Lib.hid hb
  replace hd := Lib.hid hd
  replace hl := Lib.hid hl
  replace hr := Lib.hid hr
  replace hn := Lib.hid hn
  replace hcs := Lib.hid hcs
  replace hcd := Lib.hid hcd
  replace hcdl := Lib.hid hcdl
  clear hC hlv
  go_enter Try.func48, Try.ntmps48
  go_wp2_with fail
  go_loopw [18] (fun i W => ∃ k : Nat, k ≤ vs.length ∧ i = .int .i64 k ∧ BoxC W w.heap.size 32 #[.slice a C.s.length cap, .int .i64 C.co, .int .i64 C.ge, .slice a2 C.s.length cap2, .int .i64 vs.length] ∧ Below w.heap.size w W) (fun i _ => vs.length - (intOf i).toNat)
  case atStart => exact ⟨0, Nat.zero_le _, rfl, bP, hB⟩
  case round =>
    clear bP hB bR
    obtain ⟨k, hk, rfl, bX, hBX⟩ := hrel
    have p0 := bX.cell 0 rfl
    have p3 := bX.cell 3 rfl
    have hbl := bX.lt
    by_cases hlt : k < vs.length
    · obtain ⟨b, off, cap', he, hc⟩ := SlOf.at (DivSl.mono hv hBX) hlt
      cases he
      obtain ⟨u, d0, hu⟩ := hc k hlt
      have hlk := hl.out k hlt
      obtain ⟨a7, cap7, rfl⟩ := SlOf.lenN hu hlk
      have hki : (k : Int) < (vs.length : Int) := by omega
      replace hlk := Lib.hid hlk
      clear hc
      go_wp2_with fail
      go_loopw [30] (fun i W => ∃ j : Nat, j ≤ C.s.length ∧ i = .int .i64 j ∧ BoxC W w.heap.size 32 #[.slice a C.s.length cap, .int .i64 C.co, .int .i64 C.ge, .slice a2 C.s.length cap2, .int .i64 vs.length] ∧ Below wr.heap.size wr W) (fun i _ => C.s.length - (intOf i).toNat)
      case atStart => exact ⟨0, Nat.zero_le _, rfl, bX, Below.refl _ _⟩
      case round =>
        rename_i W
        clear bX p0 p3
        obtain ⟨j, hj, rfl, bY, hBY⟩ := hrel
        have hBW := hBX.trans (hBY.mono hBX.size)
        have p0 := bY.cell 0 rfl
        have p3 := bY.cell 3 rfl
        have hbl2 := bY.lt
        by_cases hlt2 : j < C.s.length
        · obtain ⟨b2, off2, cap2', he2, hc2⟩ := SlOf.atN (LvlSl.mono hu hBY) hlk.out hlt2
          cases he2
          obtain ⟨u2, e0, hu2⟩ := hc2 j hlt2
          have hdj := hd.out k j hlt hlt2
          have hbj := hb.out k j
          obtain ⟨m, hm⟩ : ∃ m : Nat, nth C.s j = m := ⟨(nth C.s j).toNat, by have := hcs.out j; omega⟩
          have hm4 : m ≤ 4 := by have := hcs.out j; omega
          obtain ⟨a8, cap8, rfl⟩ := hu2.len
          have hBI := (Below.refl wr.heap.size wr).alloc (Nat.le_refl _) (.cells #[.int .i64 (j : Int)] 3)
          have bI := BoxC.new wr 3 #[.int .i64 (j : Int)]
          have bYI := bY.grown hBI
          have hrI := hr.out.mono (hBW.trans (hBI.mono hBW.size))
          have huI := hu2.mono hBI
          have hany : anyF (fun n => n / 2 ^ m != 0) (get (get vs k) j) = false := anyF_false.2 (fun i hi => by
            obtain ⟨h1, h2⟩ := hbj i hlt hlt2 hi
            rw [hm, Int.toNat_natCast] at h2
            simp [ediv_pow_zero h1 h2])
          have hcf := containsFunc_any .u64 53 #[.pointer (some ⟨w.heap.size, 0, none⟩), .pointer (some ⟨wr.heap.size, 0, none⟩)] (fun n => n / 2 ^ m != 0) _ _ (wr.alloc (.cells #[.int .i64 (j : Int)] 3)) (fun n w' hb' =>
            wide53_any n w.heap.size wr.heap.size a a2 cap cap2 ⟨C.s, C.co, C.ge, C.d, vs.length⟩ j m w' (hrI.s.mono hb') hlt2 hm hm4 (bYI.grown hb') (bI.grown hb')) (by intro _ _; rfl) huI (by have := hcd.out j; omega)
          rw [hany] at hcf
          obtain ⟨b3, off3, cap3', he3, hc3⟩ := (hrI.d).atN hcdl.out hlt2
          cases he3
          have ed := hc3 j hlt2
          rw [← hdj] at ed
          have hlb := hcd.out j
          rw [← hdj] at hlb
          obtain ⟨lb1, lb2⟩ := hlb
          have hji : (j : Int) < (C.s.length : Int) := by omega
          replace hcf := Lib.hid hcf
          replace hdj := Lib.hid hdj
          replace hm := Lib.hid hm
          replace hany := Lib.hid hany
          replace hbj := Lib.hid hbj
          have q0 := bYI.cell 0 rfl
          have q3 := bYI.cell 3 rfl
          have i0 := bI.cell 0 rfl
          clear hc2 hc3 hu2 huI
          go_wp2_with fail
          refine hcf.out.mono ?_
          rintro e w3 ⟨rfl, hb3⟩
          go_wp2_with fail
          go_roundw
          case rel => exact ⟨j + 1, by omega, by go_num, bYI.grown hb3, hBY.trans ((hBI.trans (hb3.mono hBI.size)).mono hBY.size)⟩
          case measure => simp [intOf]; omega
        · obtain rfl : j = C.s.length := by omega
          go_wp2_with fail
          go_roundw
          case rel => exact ⟨k + 1, by omega, by go_num, bY, hBW⟩
          case measure => simp [intOf]; omega
    · obtain rfl : k = vs.length := by omega
      go_wp2
      go_ret
      exact ⟨rfl, hBX⟩

set_option maxHeartbeats 4000000 in
theorem Sound_ok (x y xd xg xv xp : Value) (C : Con) (st : St) (w : World) (hC : C.Ok) (hr : ConR w x y C) (hst : StR w xd xg xv xp st) (hS : SoundP C st) :
    Calls Try.prog 31 #[conV x y C.co C.ge C.lv, stV xd st.d.c st.d.o st.l xg xv xp] w (IntBelow 0 w) := by
  have hB := ((Below.refl w.heap.size w).alloc (Nat.le_refl _) (.cells #[x, .int .i64 C.co, .int .i64 C.ge, y, .int .i64 C.lv] 32)).alloc (by simp) (.cells #[xd, .int .u64 st.d.c, .int .u64 st.d.o, .int .i64 st.l, xg, xv, xp] 42)
  have bP := (BoxC.new w 32 #[x, .int .i64 C.co, .int .i64 C.ge, y, .int .i64 C.lv]).alloc (.cells #[xd, .int .u64 st.d.c, .int .u64 st.d.o, .int .i64 st.l, xg, xv, xp] 42)
  have bR := BoxC.new (w.alloc (.cells #[x, .int .i64 C.co, .int .i64 C.ge, y, .int .i64 C.lv] 32)) 42 #[xd, .int .u64 st.d.c, .int .u64 st.d.o, .int .i64 st.l, xg, xv, xp]
  simp only [World.size_alloc] at bR
  have hr1 := hr.mono hB
  have hst1 := hst.mono hB
  obtain ⟨a, cap, rfl⟩ := hr.s.len
  obtain ⟨a2, cap2, rfl⟩ := hr.d.lenV hC.dl
  obtain ⟨a3, cap3, rfl⟩ := hst.d.len
  obtain ⟨a4, cap4, rfl⟩ := SlOf.len hst.g
  obtain ⟨a5, cap5, rfl⟩ := SlOf.len hst.v
  obtain ⟨a6, cap6, rfl⟩ := hst.p.len
  have hlv := hC.lv
  have hlvs := hS.l
  obtain ⟨l1, l2⟩ := hlvs
  have hpn := hS.pn
  have hright := fun W h1 h2 => Right_any (.slice a C.s.length cap) (.slice a2 C.s.length cap2) (.slice a3 st.d.s.length cap3) C st.d W hC h1 h2
  rw [hS.d.right] at hright
  have hin := fun W => in46_true (n := st.l) (m := C.lv - 1) W ⟨l1, by omega⟩
  have hgen := fun W h1 h2 => generals_ok (.slice a C.s.length cap) (.slice a2 C.s.length cap2) (.slice a3 st.d.s.length cap3) (.slice a4 st.g.length cap4) (.slice a5 st.v.length cap5) (.slice a6 st.p.length cap6) C st.d.c st.d.o st.l st.g W hC h1 h2 hS.gn hS.gl hS.gr ⟨_, _, _, rfl⟩ ⟨_, _, _, rfl⟩ ⟨_, _, _, rfl⟩
  have hdiv := fun W h1 h2 => divisionals_ok (.slice a C.s.length cap) (.slice a2 C.s.length cap2) (.slice a3 st.d.s.length cap3) (.slice a4 st.g.length cap4) (.slice a5 st.v.length cap5) (.slice a6 st.p.length cap6) C st.d.c st.d.o st.l st.v W hC h1 h2 hS.vn hS.vl hS.vd hS.vb ⟨_, _, _, rfl⟩ ⟨_, _, _, rfl⟩ ⟨_, _, _, rfl⟩
  have hall := fun W h1 h2 => all_ok (.slice a C.s.length cap) (.slice a2 C.s.length cap2) (.slice a6 st.p.length cap6) C st.p W hC h1 h2 hS.pr (by omega)
  clear hr hst hC hS
  replace hright := Lib.hid hright
  replace hin := Lib.hid hin
  replace hgen := Lib.hid hgen
  replace hdiv := Lib.hid hdiv
  replace hall := Lib.hid hall
  replace hr1 := Lib.hid hr1
  replace hst1 := Lib.hid hst1
  obtain ⟨lv1, lv2⟩ := hlv
  go_enter Try.func31, Try.ntmps31
  go_wp2_with fail
  generalize hW : (w.alloc (.cells #[.slice a C.s.length cap, .int .i64 C.co, .int .i64 C.ge, .slice a2 C.s.length cap2, .int .i64 C.lv] 32)).alloc (.cells #[.slice a3 st.d.s.length cap3, .int .u64 st.d.c, .int .u64 st.d.o, .int .i64 st.l, .slice a4 st.g.length cap4, .slice a5 st.v.length cap5, .slice a6 st.p.length cap6] 42) = W at hB bP bR hr1 hst1 ⊢
  clear hW
  refine (hright.out _ hr1.out hst1.out.d).mono ?_
  rintro e w1 ⟨rfl, hb1⟩
  replace bP := bP.grown hb1
  replace bR := bR.grown hb1
  have hr2 := hr1.out.mono hb1
  have hst2 := hst1.out.mono hb1
  have hB1 := hB.trans (hb1.mono hB.size)
  clear hr1 hst1 hb1 hB
  replace hr2 := Lib.hid hr2
  replace hst2 := Lib.hid hst2
  have p0 := bP.cell 0 rfl
  have p1 := bP.cell 1 rfl
  have p2 := bP.cell 2 rfl
  have p3 := bP.cell 3 rfl
  have p4 := bP.cell 4 rfl
  have q0 := bR.cell 0 rfl
  have q1 := bR.cell 1 rfl
  have q2 := bR.cell 2 rfl
  have q3 := bR.cell 3 rfl
  have q4 := bR.cell 4 rfl
  have q5 := bR.cell 5 rfl
  have q6 := bR.cell 6 rfl
  go_wp2_with fail
  refine (hin.out _).mono ?_
  rintro e w2 ⟨rfl, rfl⟩
  go_wp2_with fail
  refine (hgen.out _ hr2.out hst2.out.g).mono ?_
  rintro e w2 ⟨rfl, hb2⟩
  replace bP := bP.grown hb2
  replace bR := bR.grown hb2
  have hr3 := hr2.out.mono hb2
  have hst3 := hst2.out.mono hb2
  have hB2 := hB1.trans (hb2.mono hB1.size)
  clear hr2 hst2 hb2 hB1 p0 p1 p2 p3 p4 q0 q1 q2 q3 q4 q5 q6
  replace hr3 := Lib.hid hr3
  replace hst3 := Lib.hid hst3
  have p0 := bP.cell 0 rfl
  have p1 := bP.cell 1 rfl
  have p2 := bP.cell 2 rfl
  have p3 := bP.cell 3 rfl
  have p4 := bP.cell 4 rfl
  have q0 := bR.cell 0 rfl
  have q1 := bR.cell 1 rfl
  have q2 := bR.cell 2 rfl
  have q3 := bR.cell 3 rfl
  have q4 := bR.cell 4 rfl
  have q5 := bR.cell 5 rfl
  have q6 := bR.cell 6 rfl
  go_wp2_with fail
  refine (hdiv.out _ hr3.out hst3.out.v).mono ?_
  rintro e w3 ⟨rfl, hb3⟩
  replace bP := bP.grown hb3
  replace bR := bR.grown hb3
  have hr4 := hr3.out.mono hb3
  have hst4 := hst3.out.mono hb3
  have hB3 := hB2.trans (hb3.mono hB2.size)
  clear hr3 hst3 hb3 hB2 p0 p1 p2 p3 p4 q0 q1 q2 q3 q4 q5 q6
  replace hr4 := Lib.hid hr4
  replace hst4 := Lib.hid hst4
  have p0 := bP.cell 0 rfl
  have p1 := bP.cell 1 rfl
  have p2 := bP.cell 2 rfl
  have p3 := bP.cell 3 rfl
  have p4 := bP.cell 4 rfl
  have q6 := bR.cell 6 rfl
  go_wp2_with fail
  refine (hall.out _ hr4.out hst4.out.p).mono ?_
  rintro e w4 ⟨rfl, hb4⟩
  go_wp2
  go_ret
  exact ⟨rfl, hB3.trans (hb4.mono hB3.size)⟩
end Go.Proofs.Ytgnamahdchefnaa
