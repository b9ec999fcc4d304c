/- Contracts of in, Check, right and Right. Conditions: consoles of plans. -/
import Derived.Test.YtgnamahdchefnaaRows
import Derived.Test.YtgnamahdchefnaaP0
import Derived.Test.YtgnamahdchefnaaContains
namespace Go.Proofs.Ytgnamahdchefnaa
open Go.RowKit Go.Shelf

set_option maxHeartbeats 400000 in
theorem in46_any (n m : Int) (w : World) : Calls Try.prog 46 #[.int .i64 n, .int .i64 m] w fun e w' => e = .returned (.bool (betw n 0 m)) ∧ w = w' := by
  by_cases h : 0 ≤ n
  · go_enter Try.func46, Try.ntmps46
    go_wp2
    go_ret
    simp [betw, h]
  · have h' : n < 0 := by omega
    go_enter Try.func46, Try.ntmps46
    go_wp2
    go_ret
    simp [betw]; omega
def inB (i n : Int) : Bool := decide (0 ≤ i) && decide (i < n)
theorem inB_true {i n : Int} (h : 0 ≤ i ∧ i < n) : inB i n = true := by simp [inB, h.1, h.2]
theorem inB_false {i n : Int} (h : ¬ (0 ≤ i ∧ i < n)) : inB i n = false := by
  cases h1 : inB i n
  · rfl
  · simp [inB] at h1; exact absurd h1 h
set_option maxHeartbeats 400000 in
theorem in42_any (i n : Int) (w : World) : Calls Try.prog 42 #[.int .i64 i, .int .i64 n] w fun e w' => e = .returned (.bool (inB i n)) ∧ w = w' := by
  by_cases h : 0 ≤ i
  · go_enter Try.func42, Try.ntmps42
    go_wp2
    go_ret
    simp [inB, h]
  · have h' : i < 0 := by omega
    go_enter Try.func42, Try.ntmps42
    go_wp2
    go_ret
    simp [inB]; omega
theorem in46_true {n m : Int} (w : World) (h : 0 ≤ n ∧ n ≤ m) : Calls Try.prog 46 #[.int .i64 n, .int .i64 m] w fun e w' => e = .returned (.bool true) ∧ w = w' := by
  have := in46_any n m w
  rw [betw_true h] at this
  exact this

set_option maxHeartbeats 4000000 in
theorem Check_any (x y : Value) (C : Con) (w : World) (hC : C.Ok) (hr : ConR w x y C) : Calls Try.prog 43 #[conV x y C.co C.ge C.lv] w (IntBelow 0 w) := by
  obtain ⟨hx, hy⟩ := hr
  have hB := (Below.refl w.heap.size w).alloc (Nat.le_refl _) (.cells #[x, .int .i64 C.co, .int .i64 C.ge, y, .int .i64 C.lv] 32)
  have bP := BoxC.new w 32 #[x, .int .i64 C.co, .int .i64 C.ge, y, .int .i64 C.lv]
  have hx1 := hx.mono hB
  have hy1 := hy.mono hB
  obtain ⟨a, cap, rfl⟩ := hx.len
  obtain ⟨a2, cap2, rfl⟩ := hy.lenV hC.dl
  have hn := hC.n
  have hs := hC.s
  have hd := hC.d
  have hdl := hC.dl
  obtain ⟨co, co2⟩ := hC.co
  obtain ⟨ge, ge2⟩ := hC.ge
  obtain ⟨lv, lv2⟩ := hC.lv
  have hi1 := fun W => in46_true (n := C.co) (m := 40) W ⟨co, by omega⟩
  have hi2 := fun W => in46_true (n := C.ge) (m := 20) W ⟨ge, by omega⟩
  generalize C.co = co' at *
  generalize C.ge = ge' at *
  generalize C.lv = lv' at *
  replace hdl := Lib.hid hdl
  replace hs := Lib.hid hs
  replace hd := Lib.hid hd
  clear hx hy hC
  have hlv : decide (lv' < 1) = false := decide_eq_false (by omega)
  have hlv2 : decide (16 < lv') = false := decide_eq_false (by omega)
  replace hi1 := Lib.hid hi1
  replace hi2 := Lib.hid hi2
  go_enter Try.func43, Try.ntmps43
  go_wp2_with fail
  generalize hW : w.alloc (.cells #[.slice a C.s.length cap, .int .i64 co', .int .i64 ge', .slice a2 C.s.length cap2, .int .i64 lv'] 32) = W at hB bP hx1 hy1 ⊢
  clear hW
  have p0 := bP.cell 0 rfl
  have p1 := bP.cell 1 rfl
  have p2 := bP.cell 2 rfl
  have p3 := bP.cell 3 rfl
  have p4 := bP.cell 4 rfl
  go_loop [14] (fun i => ∃ k : Nat, k ≤ C.s.length ∧ i = .int .i64 k) (fun i => C.s.length - (intOf i).toNat)
  case atStart => exact ⟨0, Nat.zero_le _, rfl⟩
  case round =>
    obtain ⟨k, hk, rfl⟩ := hrel
    by_cases hlt : k < C.s.length
    · obtain ⟨b, off, cap', he, hc⟩ := hx1.at hlt
      cases he
      have hck := hc k hlt
      obtain ⟨s1, s2⟩ := hs.out k
      clear hc
      generalize nth C.s k = z at hck s1 s2
      go_wp2_with fail
      refine (in46_true _ ⟨s1, by omega⟩).mono ?_
      rintro e w' ⟨rfl, rfl⟩
      go_wp2_with fail
      go_round
      case rel => exact ⟨k + 1, by omega, by go_num⟩
      case measure => simp [intOf]; omega
    · obtain rfl : k = C.s.length := by omega
      go_wp2_with fail
      refine (hi1.out _).mono ?_
      rintro e w' ⟨rfl, rfl⟩
      go_wp2_with fail
      refine (hi2.out _).mono ?_
      rintro e w' ⟨rfl, rfl⟩
      go_wp2_with fail
      go_loop [44] (fun i => ∃ k : Nat, k ≤ C.s.length ∧ i = .int .i64 k) (fun i => C.s.length - (intOf i).toNat)
      case atStart => exact ⟨0, Nat.zero_le _, rfl⟩
      case round =>
        obtain ⟨k, hk, rfl⟩ := hrel
        by_cases hlt : k < C.s.length
        · obtain ⟨b, off, cap', he, hc⟩ := hy1.atN hdl.out hlt
          cases he
          have hck := hc k hlt
          obtain ⟨s1, s2⟩ := hd.out k
          clear hc
          generalize nth C.d k = z at hck s1 s2
          go_wp2_with fail
          refine (in46_true _ ⟨s1, by omega⟩).mono ?_
          rintro e w' ⟨rfl, rfl⟩
          go_wp2_with fail
          go_round
          case rel => exact ⟨k + 1, by omega, by go_num⟩
          case measure => simp [intOf]; omega
        · obtain rfl : k = C.s.length := by omega
          go_wp2_with fail
          go_ret
          exact ⟨rfl, hB⟩

set_option maxHeartbeats 4000000 in
theorem right_any (x y u : Value) (C : Con) (r : Rg) (w : World) (hC : C.Ok) (hr : ConR w x y C) (hu : NumSl .u64 w u r.s) : Calls Try.prog 44 #[conV x y C.co C.ge C.lv, regV u r.c r.o] w (IntBelow (rightF C r) w) := by
  have hB := ((Below.refl w.heap.size w).alloc (Nat.le_refl _) (.cells #[x, .int .i64 C.co, .int .i64 C.ge, y, .int .i64 C.lv] 32)).alloc (by simp) (.cells #[u, .int .u64 r.c, .int .u64 r.o] 37)
  have bP := (BoxC.new w 32 #[x, .int .i64 C.co, .int .i64 C.ge, y, .int .i64 C.lv]).alloc (.cells #[u, .int .u64 r.c, .int .u64 r.o] 37)
  have bR := BoxC.new (w.alloc (.cells #[x, .int .i64 C.co, .int .i64 C.ge, y, .int .i64 C.lv] 32)) 37 #[u, .int .u64 r.c, .int .u64 r.o]
  simp only [World.size_alloc] at bR
  have hx1 := hr.s.mono hB
  have hu1 := hu.mono hB
  obtain ⟨a, cap, rfl⟩ := hr.s.len
  obtain ⟨a2, cap2, rfl⟩ := hr.d.lenV hC.dl
  clear hr
  have hn := hC.n
  obtain ⟨m, hm⟩ : ∃ m : Nat, C.co = m := ⟨C.co.toNat, by have := hC.co; omega⟩
  have hm3 : m ≤ 3 := by have := hC.co; omega
  have hs := hC.s
  replace hs := Lib.hid hs
  clear hC
  obtain ⟨F, hF⟩ : ∃ F, rightF C r = F := ⟨_, rfl⟩
  rw [hF]
  unfold rightF at hF
  by_cases h2 : r.s.length = C.s.length
  · rw [if_neg (by simpa using h2)] at hF
    obtain ⟨a3, cap3, rfl⟩ := hu.lenV h2
    clear hu
    replace hF := Lib.hid hF
    replace h2 := Lib.hid h2
    have hE := @rightS_end C r C.s.length (Nat.le_refl _)
    unfold rightE at hE
    rw [hm, Int.toNat_natCast] at hE
    rw [hm] at hB bP bR hx1 hu1 ⊢
    generalize r.c = rc at hE hB bP bR hx1 hu1 ⊢
    generalize r.o = ro at hE hB bP bR hx1 hu1 ⊢
    generalize C.ge = cge at hB bP bR hx1 hu1 ⊢
    generalize C.lv = clv at hB bP bR hx1 hu1 ⊢
    replace hE := Lib.hid hE
    go_enter Try.func44, Try.ntmps44
    go_wp2_with fail
    generalize hW : (w.alloc (.cells #[.slice a C.s.length cap, .int .i64 m, .int .i64 cge, .slice a2 C.s.length cap2, .int .i64 clv] 32)).alloc (.cells #[.slice a3 C.s.length cap3, .int .u64 rc, .int .u64 ro] 37) = W at hB bP bR hx1 hu1 ⊢
    clear hW
    have p0 := bP.cell 0 rfl
    have p1 := bP.cell 1 rfl
    have q0 := bR.cell 0 rfl
    have q1 := bR.cell 1 rfl
    have q2 := bR.cell 2 rfl
    go_loop [17] (fun i => ∃ k : Nat, k ≤ C.s.length ∧ i = .int .i64 k ∧ Hid (rightS C r k = F)) (fun i => C.s.length - (intOf i).toNat)
    case atStart => exact ⟨0, Nat.zero_le _, rfl, hF⟩
    case round =>
      clear hF
      obtain ⟨k, hk, rfl, hF⟩ := hrel
      by_cases hlt : k < C.s.length
      · obtain ⟨b, off, cap', he, hc⟩ := hx1.at hlt
        cases he
        obtain ⟨b2, off2, cap2', he2, hc2⟩ := hu1.atN h2.out hlt
        cases he2
        have cx := hc k hlt
        have cu := hc2 k hlt
        have L1 := @rightS_bad C r k hlt
        have L2 := @rightS_next C r k hlt
        obtain ⟨s1, s2⟩ := hs.out k
        obtain ⟨n, hnn⟩ : ∃ n : Nat, nth C.s k = n := ⟨(nth C.s k).toNat, by omega⟩
        rw [hnn] at cx L1 L2
        rw [Int.toNat_natCast] at L1 L2
        have hn4 : n ≤ 4 := by omega
        clear hc hc2 hnn s1 s2
        generalize nth r.s k = z at cu L1 L2
        by_cases hz : z / 2 ^ n = 0
        · replace L2 := Lib.hid (L2 hz)
          have hz2 : (z / 2 ^ n != 0) = false := by simp [hz]
          clear hz L1
          go_wp2
          go_round
          case rel => exact ⟨k + 1, by omega, by go_num, L2.out.symm.trans hF.out⟩
          case measure => simp [intOf]; omega
        · replace L1 := Lib.hid (L1 hz)
          have hz2 : (z / 2 ^ n != 0) = true := by simp [hz]
          clear hz L2
          go_wp2
          go_ret
          exact ⟨ret_int (L1.out.symm.trans hF.out), hB⟩
      · obtain rfl : k = C.s.length := by omega
        have hEF := hE.out.symm.trans hF.out
        by_cases hz : rc / 2 ^ m = 0
        · have hz2 : (rc / 2 ^ m != 0) = false := by simp [hz]
          by_cases hy : ro / 2 ^ C.s.length = 0
          · have hy2 : (ro / 2 ^ C.s.length != 0) = false := by simp [hy]
            rw [if_neg (by simp [hz, hy])] at hEF
            clear hz hy
            subst hEF
            clear hF
            go_wp2
            go_ret
            exact ⟨rfl, hB⟩
          · have hy2 : (ro / 2 ^ C.s.length != 0) = true := by simp [hy]
            rw [if_pos (.inr hy)] at hEF
            clear hz hy
            subst hEF
            clear hF
            go_wp2
            go_ret
            exact ⟨rfl, hB⟩
        · have hz2 : (rc / 2 ^ m != 0) = true := by simp [hz]
          rw [if_pos (.inl hz)] at hEF
          clear hz
          subst hEF
          clear hF
          go_wp2
          go_ret
          exact ⟨rfl, hB⟩
  · rw [if_pos h2] at hF
    subst hF
    obtain ⟨a3, cap3, rfl⟩ := hu.len
    clear hu
    have h3 : ((r.s.length : Int) != (C.s.length : Int)) = true := bne_iff_ne.2 (by omega)
    replace hm := Lib.hid hm
    have h4 : (r.s.length != C.s.length) = true := by simpa using h2
    clear h2
    go_enter Try.func44, Try.ntmps44
    go_wp2
    go_ret
    exact ⟨rfl, hB⟩

set_option maxHeartbeats 4000000 in
theorem lawRight_any (x y u : Value) (C : Con) (r : Rg) (w : World) (hC : C.Ok) (hr : ConR w x y C) (hu : NumSl .u64 w u r.s) : Calls Try.prog 20 #[conV x y C.co C.ge C.lv, regV u r.c r.o] w (IntBelow (rightF C r) w) := by
  have hB := ((Below.refl w.heap.size w).alloc (Nat.le_refl _) (.cells #[x, .int .i64 C.co, .int .i64 C.ge, y, .int .i64 C.lv] 32)).alloc (by simp) (.cells #[u, .int .u64 r.c, .int .u64 r.o] 37)
  have bP := (BoxC.new w 32 #[x, .int .i64 C.co, .int .i64 C.ge, y, .int .i64 C.lv]).alloc (.cells #[u, .int .u64 r.c, .int .u64 r.o] 37)
  have bR := BoxC.new (w.alloc (.cells #[x, .int .i64 C.co, .int .i64 C.ge, y, .int .i64 C.lv] 32)) 37 #[u, .int .u64 r.c, .int .u64 r.o]
  simp only [World.size_alloc] at bR
  have hx1 := hr.s.mono hB
  have hu1 := hu.mono hB
  obtain ⟨a, cap, rfl⟩ := hr.s.len
  obtain ⟨a2, cap2, rfl⟩ := hr.d.lenV hC.dl
  clear hr
  have hn := hC.n
  obtain ⟨m, hm⟩ : ∃ m : Nat, C.co = m := ⟨C.co.toNat, by have := hC.co; omega⟩
  have hm3 : m ≤ 3 := by have := hC.co; omega
  have hs := hC.s
  replace hs := Lib.hid hs
  clear hC
  obtain ⟨F, hF⟩ : ∃ F, rightF C r = F := ⟨_, rfl⟩
  rw [hF]
  unfold rightF at hF
  by_cases h2 : r.s.length = C.s.length
  · rw [if_neg (by simpa using h2)] at hF
    obtain ⟨a3, cap3, rfl⟩ := hu.lenV h2
    clear hu
    replace hF := Lib.hid hF
    replace h2 := Lib.hid h2
    have hE := @rightS_end C r C.s.length (Nat.le_refl _)
    unfold rightE at hE
    rw [hm, Int.toNat_natCast] at hE
    rw [hm] at hB bP bR hx1 hu1 ⊢
    generalize r.c = rc at hE hB bP bR hx1 hu1 ⊢
    generalize r.o = ro at hE hB bP bR hx1 hu1 ⊢
    generalize C.ge = cge at hB bP bR hx1 hu1 ⊢
    generalize C.lv = clv at hB bP bR hx1 hu1 ⊢
    replace hE := Lib.hid hE
    go_enter Try.func20, Try.ntmps20
    go_wp2_with fail
    generalize hW : (w.alloc (.cells #[.slice a C.s.length cap, .int .i64 m, .int .i64 cge, .slice a2 C.s.length cap2, .int .i64 clv] 32)).alloc (.cells #[.slice a3 C.s.length cap3, .int .u64 rc, .int .u64 ro] 37) = W at hB bP bR hx1 hu1 ⊢
    clear hW
    have p0 := bP.cell 0 rfl
    have p1 := bP.cell 1 rfl
    have q0 := bR.cell 0 rfl
    have q1 := bR.cell 1 rfl
    have q2 := bR.cell 2 rfl
    go_loop [17] (fun i => ∃ k : Nat, k ≤ C.s.length ∧ i = .int .i64 k ∧ Hid (rightS C r k = F)) (fun i => C.s.length - (intOf i).toNat)
    case atStart => exact ⟨0, Nat.zero_le _, rfl, hF⟩
    case round =>
      clear hF
      obtain ⟨k, hk, rfl, hF⟩ := hrel
      by_cases hlt : k < C.s.length
      · obtain ⟨b, off, cap', he, hc⟩ := hx1.at hlt
        cases he
        obtain ⟨b2, off2, cap2', he2, hc2⟩ := hu1.atN h2.out hlt
        cases he2
        have cx := hc k hlt
        have cu := hc2 k hlt
        have L1 := @rightS_bad C r k hlt
        have L2 := @rightS_next C r k hlt
        obtain ⟨s1, s2⟩ := hs.out k
        obtain ⟨n, hnn⟩ : ∃ n : Nat, nth C.s k = n := ⟨(nth C.s k).toNat, by omega⟩
        rw [hnn] at cx L1 L2
        rw [Int.toNat_natCast] at L1 L2
        have hn4 : n ≤ 4 := by omega
        clear hc hc2 hnn s1 s2
        generalize nth r.s k = z at cu L1 L2
        by_cases hz : z / 2 ^ n = 0
        · replace L2 := Lib.hid (L2 hz)
          have hz2 : (z / 2 ^ n != 0) = false := by simp [hz]
          clear hz L1
          go_wp2
          go_round
          case rel => exact ⟨k + 1, by omega, by go_num, L2.out.symm.trans hF.out⟩
          case measure => simp [intOf]; omega
        · replace L1 := Lib.hid (L1 hz)
          have hz2 : (z / 2 ^ n != 0) = true := by simp [hz]
          clear hz L2
          go_wp2
          go_ret
          exact ⟨ret_int (L1.out.symm.trans hF.out), hB⟩
      · obtain rfl : k = C.s.length := by omega
        have hEF := hE.out.symm.trans hF.out
        by_cases hz : rc / 2 ^ m = 0
        · have hz2 : (rc / 2 ^ m != 0) = false := by simp [hz]
          by_cases hy : ro / 2 ^ C.s.length = 0
          · have hy2 : (ro / 2 ^ C.s.length != 0) = false := by simp [hy]
            rw [if_neg (by simp [hz, hy])] at hEF
            clear hz hy
            subst hEF
            clear hF
            go_wp2
            go_ret
            exact ⟨rfl, hB⟩
          · have hy2 : (ro / 2 ^ C.s.length != 0) = true := by simp [hy]
            rw [if_pos (.inr hy)] at hEF
            clear hz hy
            subst hEF
            clear hF
            go_wp2
            go_ret
            exact ⟨rfl, hB⟩
        · have hz2 : (rc / 2 ^ m != 0) = true := by simp [hz]
          rw [if_pos (.inl hz)] at hEF
          clear hz
          subst hEF
          clear hF
          go_wp2
          go_ret
          exact ⟨rfl, hB⟩
  · rw [if_pos h2] at hF
    subst hF
    obtain ⟨a3, cap3, rfl⟩ := hu.len
    clear hu
    have h3 : ((r.s.length : Int) != (C.s.length : Int)) = true := bne_iff_ne.2 (by omega)
    replace hm := Lib.hid hm
    have h4 : (r.s.length != C.s.length) = true := by simpa using h2
    clear h2
    go_enter Try.func20, Try.ntmps20
    go_wp2
    go_ret
    exact ⟨rfl, hB⟩

set_option maxHeartbeats 4000000 in
theorem Right_any (x y u : Value) (C : Con) (r : Rg) (w : World) (hC : C.Ok) (hr : ConR w x y C) (hu : NumSl .u64 w u r.s) : Calls Try.prog 21 #[conV x y C.co C.ge C.lv, regV u r.c r.o] w (IntBelow (rightF C r) w) := by
  have hB := ((Below.refl w.heap.size w).alloc (Nat.le_refl _) (.cells #[x, .int .i64 C.co, .int .i64 C.ge, y, .int .i64 C.lv] 32)).alloc (by simp) (.cells #[u, .int .u64 r.c, .int .u64 r.o] 37)
  have bP := (BoxC.new w 32 #[x, .int .i64 C.co, .int .i64 C.ge, y, .int .i64 C.lv]).alloc (.cells #[u, .int .u64 r.c, .int .u64 r.o] 37)
  have bR := BoxC.new (w.alloc (.cells #[x, .int .i64 C.co, .int .i64 C.ge, y, .int .i64 C.lv] 32)) 37 #[u, .int .u64 r.c, .int .u64 r.o]
  simp only [World.size_alloc] at bR
  have hr1 := hr.mono hB
  have hu1 := hu.mono hB
  obtain ⟨a, cap, rfl⟩ := hr.s.len
  obtain ⟨a2, cap2, rfl⟩ := hr.d.lenV hC.dl
  obtain ⟨a3, cap3, rfl⟩ := hu.len
  have hk := fun W hW => Check_any (.slice a C.s.length cap) (.slice a2 C.s.length cap2) C W hC hW
  have hri := fun W h1 h2 => right_any (.slice a C.s.length cap) (.slice a2 C.s.length cap2) (.slice a3 r.s.length cap3) C r W hC h1 h2
  generalize rightF C r = F at hri ⊢
  clear hr hu
  replace hk := Lib.hid hk
  replace hri := Lib.hid hri
  replace hr1 := Lib.hid hr1
  clear hC
  go_enter Try.func21, Try.ntmps21
  go_wp2_with fail
  generalize hW : (w.alloc (.cells #[.slice a C.s.length cap, .int .i64 C.co, .int .i64 C.ge, .slice a2 C.s.length cap2, .int .i64 C.lv] 32)).alloc (.cells #[.slice a3 r.s.length cap3, .int .u64 r.c, .int .u64 r.o] 37) = W at hB bP bR hr1 hu1 ⊢
  clear hW
  refine (hk.out _ hr1.out).mono ?_
  rintro e w1 ⟨rfl, hb1⟩
  have bP1 := bP.grown hb1
  have bR1 := bR.grown hb1
  have p0 := bP1.cell 0 rfl
  have p1 := bP1.cell 1 rfl
  have p2 := bP1.cell 2 rfl
  have p3 := bP1.cell 3 rfl
  have p4 := bP1.cell 4 rfl
  have q0 := bR1.cell 0 rfl
  have q1 := bR1.cell 1 rfl
  have q2 := bR1.cell 2 rfl
  go_wp2_with fail
  refine (hri.out _ (hr1.out.mono hb1) (hu1.mono hb1)).mono ?_
  rintro e w2 ⟨rfl, hb2⟩
  go_wp2
  go_ret
  exact ⟨rfl, hB.trans ((hb1.trans (hb2.mono hb1.size)).mono hB.size)⟩
end Go.Proofs.Ytgnamahdchefnaa
