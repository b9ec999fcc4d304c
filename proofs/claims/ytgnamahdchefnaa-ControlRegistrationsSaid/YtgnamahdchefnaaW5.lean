/- Contracts of none and several: what they hand back is owned. Conditions: lists of at most 1000 elements. -/
import Derived.Test.YtgnamahdchefnaaR2
namespace Go.Proofs.Ytgnamahdchefnaa
open Go.RowKit Go.Shelf

abbrev rowS (g n : Nat) : Value := .slice (some ⟨g, 0, none⟩) n n
theorem run_make34 (n : Nat) (hn : n ≤ 1000) (X : World) : (Instr.makeSlice 34 (.int .i64 (n : Int)) (.int .i64 (n : Int))).run Try.prog X = .ok (rowS X.heap.size n) (X.alloc (.cells (madeCells #[.int .u64 0] n) 35)) := by
  obtain ⟨i0, hi, hz0, hz1, hz2⟩ := info_parts info35
  have := run_make (P := Try.prog) X 34 35 i0 (.int .u64 0) Try.underlying34 hi hz0 .i64 .i64 n n (by omega) (by omega) (by rw [hz2]; omega) (by omega)
  rw [hz1] at this
  simpa [Value.cells] using this
theorem made_own (n : Nat) (hn : n ≤ 1000) (X : World) : (X.alloc (.cells (madeCells #[.int .u64 0] n) 35)).ownsRow X.heap.size 35 1 (rowS X.heap.size n) n ((zeros n).map (Value.int .u64)) :=
  ⟨by simp [zeros], .inr ⟨X.heap.size, n, _, rfl, Nat.le_refl _, World.alloc_heap_new X _, Nat.le_refl _, by unfold maxLen; omega, by simp [size_madeCells], by rw [toList_madeCells_one]; simp [zeros]⟩⟩
theorem made_new (n : Nat) (hn : n ≤ 1000) (X : World) : NewU X.heap.size (zeros n) (rowS X.heap.size n) (X.alloc (.cells (madeCells #[.int .u64 0] n) 35)) := NewU.of (by rw [zeros_len]; exact made_own n hn X)

set_option maxHeartbeats 4000000 in
theorem none_any (x y : Value) (C : Con) (w : World) (hC : C.Ok) (hr : ConR w x y C) : Calls Try.prog 45 #[conV x y C.co C.ge C.lv] w (CopyPost (noneR C) w) := by
  obtain ⟨a, cap, rfl⟩ := hr.s.len
  obtain ⟨a2, cap2, rfl⟩ := hr.d.lenV hC.dl
  have hn := hC.n
  have hmb : ∀ X : World, (Instr.makeSlice 34 (.int .i64 (C.s.length : Int)) (.int .i64 (C.s.length : Int))).run Try.prog X = .ok (rowS X.heap.size C.s.length) (X.alloc (.cells (madeCells #[.int .u64 0] C.s.length) 35)) := run_make34 C.s.length (by omega)
  unfold CopyPost noneR
  clear hC hr
  go_enter Try.func45, Try.ntmps45
  go_wp2_with fail
  have bF := (BoxC.new (w.alloc (.cells #[.slice a C.s.length cap, .int .i64 C.co, .int .i64 C.ge, .slice a2 C.s.length cap2, .int .i64 C.lv] 32)) 37 #[rowS (w.heap.size + 1 + 1) C.s.length, .int .u64 0, .int .u64 0]).alloc (.cells (madeCells #[.int .u64 0] C.s.length) 35)
  have hnw := made_new C.s.length (by omega) ((w.alloc (.cells #[.slice a C.s.length cap, .int .i64 C.co, .int .i64 C.ge, .slice a2 C.s.length cap2, .int .i64 C.lv] 32)).alloc (.cells #[rowS (w.heap.size + 1 + 1) C.s.length, .int .u64 0, .int .u64 0] 37))
  simp only [World.size_alloc] at bF hnw
  exact bodyPost_ret (ret_cell Try.results45 rfl bF Try.underlying37 size37) rfl ⟨_, rfl, hnw.low (by omega), (((Below.refl w.heap.size w).alloc (Nat.le_refl _) _).alloc (by simp) _).alloc (by simp; omega) _⟩

def SeveralPost (ls : List Rg) (w : World) (e : Ending) (w' : World) : Prop := ∃ v' κ, e = .returned v' ∧ RegsO w.heap.size κ (1, 0, 0) (fun j => (2, j, 0)) v' ls w' ∧ Below w.heap.size w w'
set_option maxHeartbeats 4000000 in
theorem several_any (v : Value) (ls : List Rg) (w : World) (hv : RgSl w v ls) (hn : ls.length ≤ 1000) (hs : ∀ j, j < ls.length → (get ls j).s.length ≤ 1000) : Calls Try.prog 51 #[v] w (SeveralPost ls w) := by
  obtain ⟨a3, cap3, rfl⟩ := hv.len
  replace hs := Lib.hid hs
  go_enter Try.func51, Try.ntmps51
  go_wp2_with fail
  go_loopw [3, 8] (fun u i W => ∃ (k : Nat) (κ : Nat → Role), k ≤ ls.length ∧ i = .int .i64 k ∧ RegsO w.heap.size κ (1, 0, 0) (fun j => (2, j, 0)) u (ls.take k) W ∧ Below w.heap.size w W) (fun _ i _ => ls.length - (intOf i).toNat)
  case atStart => exact ⟨0, fun _ => (0, 0, 0), Nat.zero_le _, rfl, by rw [List.take_zero]; exact RegsO.nil _ _ _ _ _, Below.refl _ _⟩
  case round =>
    obtain ⟨k, κ, hk, rfl, hR, hBX⟩ := hrel
    by_cases hlt : k < ls.length
    · obtain ⟨b, off, cap', he, hc⟩ := (hv.mono hBX).at hlt
      cases he
      obtain ⟨u, d0, hsn, d1, d2⟩ := hc k hlt
      have hB1 := (Below.refl wr.heap.size wr).alloc (Nat.le_refl _) (.cells #[u, .int .u64 (get ls k).c, .int .u64 (get ls k).o] 37)
      have bQ := BoxC.new wr 37 #[u, .int .u64 (get ls k).c, .int .u64 (get ls k).o]
      have hcp := copied_any u (get ls k) _ (hsn.mono hB1) (hs.out k hlt)
      obtain ⟨us, hrow, hels⟩ := hR
      obtain ⟨n, hn2⟩ : ∃ n, (ls.take k).length = n := ⟨_, rfl⟩
      have htk : n = k := by rw [← hn2]; simp; omega
      have hnext := take_get hlt
      obtain ⟨a4, cap4, rfl⟩ := hsn.len
      have hki : (k : Int) < (ls.length : Int) := by omega
      have hwz := hBX.size
      clear hc hsn
      replace hcp := Lib.hid hcp
      replace htk := Lib.hid htk
      replace hn2 := Lib.hid hn2
      replace hnext := Lib.hid hnext
      have q0 := bQ.cell 0 rfl
      have q1 := bQ.cell 1 rfl
      have q2 := bQ.cell 2 rfl
      go_wp2_with fail
      refine hcp.out.mono ?_
      rintro e w2 ⟨v2, rfl, hnew, hb2⟩
      have hb2s := hb2.size
      simp only [World.size_alloc] at hb2s
      obtain ⟨a5, cap5, rfl⟩ := hnew.num.len
      have st1 : ∀ r e size v m D, RowX w.heap.size κ r e size v m D wr → RowX w.heap.size (kfrom κ (wr.heap.size + 1) (2, (ls.take k).length, 0)) r e size v m D w2 := fun r e size v m D h => by
        have h := (h.below hB1).newk (r := (2, (ls.take k).length, 0)) hb2
        simpa only [World.size_alloc] using h
      have hn5 := hnew.row (lo := w.heap.size) (by simp; omega) κ (2, (ls.take k).length, 0)
      simp only [World.size_alloc] at hn5
      have hrow2 := st1 _ _ _ _ _ _ hrow
      have hln := hn2.out
      have hb0 : (ls.take k).length ≤ 1000 := by have := htk.out; omega
      go_wp2_with (at_builtin; refine wpList_apX ap40 rfl _ _ rfl rfl (hrow2.alloc _) (by simp; omega) ⟨w2.heap.size, 0, none⟩ 1 [.slice a5 (get ls k).s.length cap5, .int .u64 (get ls k).c, .int .u64 (get ls k).o] rfl rfl (laid_news w2 _ 37) (by simp [Value.oneCell']) (by unfold maxLen; omega) (by omega) ?_; intro v' w4 hrow4 hfr4 _)
      have st2 := fun r e size v m D (hr : r ≠ (1, 0, 0)) (h : RowX w.heap.size κ r e size v m D wr) => ((st1 r e size v m D h).alloc _).push hfr4 hr
      have hB4 := (hB1.trans (hb2.mono hB1.size)).trans ((Below.refl w2.heap.size w2).alloc (Nat.le_refl _) (.cells #[.slice a5 (get ls k).s.length cap5, .int .u64 (get ls k).c, .int .u64 (get ls k).o] 37) |>.mono (Nat.le_trans hB1.size hb2.size))
      have hB5 := (hBX.trans (hB4.mono hBX.size)).trans (hfr4.below (by simp; omega))
      have hR' := RegsO.mk_push (rg := get ls k) hrow4 (fun j hj => st2 _ _ _ _ _ _ (by simp) (hels j hj)) (RowX.push (RowX.alloc hn5 _) hfr4 (by simp))
      rw [← hnext.out] at hR'
      go_roundw
      case rel => exact ⟨k + 1, _, by omega, by go_num, hR', hB5⟩
      case measure => simp [intOf]; omega
    · obtain rfl : k = ls.length := by omega
      rw [List.take_length] at hR
      go_wp2
      go_ret
      exact ⟨_, κ, rfl, hR, hBX⟩
end Go.Proofs.Ytgnamahdchefnaa
