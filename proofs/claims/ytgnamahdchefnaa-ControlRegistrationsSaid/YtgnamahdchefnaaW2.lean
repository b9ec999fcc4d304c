/- Contracts of all, generals, divisionals and Sound for sound states. Conditions: consoles of plans, sound states. -/
import Derived.Test.YtgnamahdchefnaaW1
namespace Go.Proofs.Ytgnamahdchefnaa
open Go.RowKit Go.Shelf

set_option maxHeartbeats 4000000 in
theorem all_ok (x y v : Value) (C : Con) (ls : List Rg) (w : World) (hC : C.Ok) (hr : ConR w x y C) (hv : RgSl w v ls) (hok : ∀ j, j < ls.length → RegOk C (get ls j)) (hl : ls.length ≤ 1000) : Calls Try.prog 49 #[conV x y C.co C.ge C.lv, v] w (IntBelow 0 w) := by
  have hB := (Below.refl w.heap.size w).alloc (Nat.le_refl _) (.cells #[x, .int .i64 C.co, .int .i64 C.ge, y, .int .i64 C.lv] 32)
  have bP := BoxC.new w 32 #[x, .int .i64 C.co, .int .i64 C.ge, y, .int .i64 C.lv]
  obtain ⟨a, cap, rfl⟩ := hr.s.len
  obtain ⟨a2, cap2, rfl⟩ := hr.d.lenV hC.dl
  obtain ⟨a3, cap3, rfl⟩ := hv.len
  have hri := fun (r : Rg) u W h1 h2 => right_any (.slice a C.s.length cap) (.slice a2 C.s.length cap2) u C r W hC h1 h2
  replace hri := Lib.hid hri
  replace hok := Lib.hid hok
  replace hr := Lib.hid hr
  clear hC
  go_enter Try.func49, Try.ntmps49
  go_wp2_with fail
  go_loopw [10] (fun i W => ∃ k : Nat, k ≤ ls.length ∧ i = .int .i64 k ∧ BoxC W w.heap.size 32 #[.slice a C.s.length cap, .int .i64 C.co, .int .i64 C.ge, .slice a2 C.s.length cap2, .int .i64 C.lv] ∧ Below w.heap.size w W) (fun i _ => ls.length - (intOf i).toNat)
  case atStart => exact ⟨0, Nat.zero_le _, rfl, bP, hB⟩
  case round =>
    clear bP hB
    obtain ⟨k, hk, rfl, bX, hBX⟩ := hrel
    have p0 := bX.cell 0 rfl
    have p1 := bX.cell 1 rfl
    have p2 := bX.cell 2 rfl
    have p3 := bX.cell 3 rfl
    have p4 := bX.cell 4 rfl
    have hbl := bX.lt
    by_cases hlt : k < ls.length
    · obtain ⟨b, off, cap', he, hc⟩ := (hv.mono hBX).at hlt
      cases he
      obtain ⟨u, d0, hsn, d1, d2⟩ := hc k hlt
      have hko := (hok.out k hlt).right
      have hB2 := hBX.alloc hBX.size (.cells #[u, .int .u64 (get ls k).c, .int .u64 (get ls k).o] 37)
      have bX2 := bX.alloc (.cells #[u, .int .u64 (get ls k).c, .int .u64 (get ls k).o] 37)
      obtain ⟨a4, cap4, rfl⟩ := hsn.len
      have hri1 := hri.out (get ls k) _ _ (hr.out.mono hB2) (hsn.mono ((Below.refl _ _).alloc (Nat.le_refl _) _))
      rw [hko] at hri1
      replace hri1 := Lib.hid hri1
      have hki : (k : Int) < (ls.length : Int) := by omega
      clear hc hko
      go_wp2_with fail
      refine hri1.out.mono ?_
      rintro e w2 ⟨rfl, hb2⟩
      go_wp2_with fail
      go_roundw
      case rel => exact ⟨k + 1, by omega, by go_num, bX2.grown hb2, hB2.trans (hb2.mono hB2.size)⟩
      case measure => simp [intOf]; omega
    · obtain rfl : k = ls.length := by omega
      go_wp2
      go_ret
      exact ⟨rfl, hBX⟩

set_option maxHeartbeats 4000000 in
theorem generals_ok (x y xd xg xv xp : Value) (C : Con) (c o l : Int) (gs : List (List Rg)) (w : World) (hC : C.Ok) (hr : ConR w x y C) (hg : GenSl w xg gs) (hn : (gs.length : Int) = C.lv) (hl : ∀ i, i < gs.length → ((get gs i).length : Int) = C.ge)
    (hok : ∀ i j, i < gs.length → j < (get gs i).length → RegOk C (get (get gs i) j)) (hxd : ∃ a n q, xd = .slice a n q) (hxv : ∃ a n q, xv = .slice a n q) (hxp : ∃ a n q, xp = .slice a n q) :
    Calls Try.prog 47 #[conV x y C.co C.ge C.lv, stV xd c o l xg xv xp] w (IntBelow 0 w) := by
  have hlv := hC.lv
  have hge := hC.ge
  have hln : gs.length ≤ 2 := by omega
  have hB := ((Below.refl w.heap.size w).alloc (Nat.le_refl _) (.cells #[x, .int .i64 C.co, .int .i64 C.ge, y, .int .i64 C.lv] 32)).alloc (by simp) (.cells #[xd, .int .u64 c, .int .u64 o, .int .i64 l, xg, xv, xp] 42)
  have bP := (BoxC.new w 32 #[x, .int .i64 C.co, .int .i64 C.ge, y, .int .i64 C.lv]).alloc (.cells #[xd, .int .u64 c, .int .u64 o, .int .i64 l, xg, xv, xp] 42)
  have bR := BoxC.new (w.alloc (.cells #[x, .int .i64 C.co, .int .i64 C.ge, y, .int .i64 C.lv] 32)) 42 #[xd, .int .u64 c, .int .u64 o, .int .i64 l, xg, xv, xp]
  simp only [World.size_alloc] at bR
  obtain ⟨a, cap, rfl⟩ := hr.s.len
  obtain ⟨a2, cap2, rfl⟩ := hr.d.lenV hC.dl
  obtain ⟨a3, cap3, rfl⟩ := SlOf.len hg
  obtain ⟨a4, n4, cap4, rfl⟩ := hxd
  obtain ⟨a5, n5, cap5, rfl⟩ := hxv
  obtain ⟨a6, n6, cap6, rfl⟩ := hxp
  have hall := fun v ls W => all_ok (.slice a C.s.length cap) (.slice a2 C.s.length cap2) v C ls W hC
  rw [← hn] at hB bP bR ⊢
  replace hall := Lib.hid hall
  replace hok := Lib.hid hok
  replace hl := Lib.hid hl
  replace hr := Lib.hid hr
  replace hn := Lib.hid hn
  clear hC hlv
  go_enter Try.func47, Try.ntmps47
  go_wp2_with fail
  go_loopw [17] (fun i W => ∃ k : Nat, k ≤ gs.length ∧ i = .int .i64 k ∧ BoxC W w.heap.size 32 #[.slice a C.s.length cap, .int .i64 C.co, .int .i64 C.ge, .slice a2 C.s.length cap2, .int .i64 gs.length] ∧ Below w.heap.size w W) (fun i _ => gs.length - (intOf i).toNat)
  case atStart => exact ⟨0, Nat.zero_le _, rfl, bP, hB⟩
  case round =>
    clear bP hB bR
    obtain ⟨k, hk, rfl, bX, hBX⟩ := hrel
    have p0 := bX.cell 0 rfl
    have p1 := bX.cell 1 rfl
    have p2 := bX.cell 2 rfl
    have p3 := bX.cell 3 rfl
    have p4 := bX.cell 4 rfl
    have hbl := bX.lt
    by_cases hlt : k < gs.length
    · obtain ⟨b, off, cap', he, hc⟩ := SlOf.at (GenSl.mono hg hBX) hlt
      cases he
      obtain ⟨u, d0, hu⟩ := hc k hlt
      have hlk := hl.out k hlt
      have hkb : (get gs k).length ≤ 1000 := by omega
      have h1 := hall.out u (get gs k) _ (hr.out.mono hBX) hu (fun j hj => hok.out k j hlt hj) hkb
      rw [← hn.out, ← hlk] at h1
      replace h1 := Lib.hid h1
      obtain ⟨a7, cap7, rfl⟩ := hu.len
      rw [← hlk] at p2
      have hki : (k : Int) < (gs.length : Int) := by omega
      clear hc hu
      replace hlk := Lib.hid hlk
      go_wp2_with fail
      refine h1.out.mono ?_
      rintro e w2 ⟨rfl, hb2⟩
      go_wp2_with fail
      go_roundw
      case rel => exact ⟨k + 1, by omega, by go_num, bX.grown hb2, hBX.trans (hb2.mono hBX.size)⟩
      case measure => simp [intOf]; omega
    · obtain rfl : k = gs.length := by omega
      go_wp2
      go_ret
      exact ⟨rfl, hBX⟩
end Go.Proofs.Ytgnamahdchefnaa
