/- The contract of Drawn. Conditions: consoles of plans, bytes. -/
import Derived.Test.YtgnamahdchefnaaPA
import Derived.Test.YtgnamahdchefnaaW5
import Derived.IntWalk
namespace Go.Proofs.Ytgnamahdchefnaa
open Go.RowKit Go.Shelf

set_option linter.unusedVariables false in
set_option maxRecDepth 100000 in
set_option maxHeartbeats 4000000 in
theorem Drawn_any (x y v : Value) (C : Con) (bits : List Int) (w : World) (hC : C.Ok) (hr : ConR w x y C) (hv : NumSl .u8 w v bits) (hb : ∀ k, k < bits.length → 0 ≤ nth bits k ∧ nth bits k < 256) (hl : bits.length ≤ 1000) :
    Calls Try.prog 10 #[conV x y C.co C.ge C.lv, v] w (CopyPost (drawR C bits) w) := by
  have hent : ∀ (args : Array Value) (X : World), (callFunc 29 args).run Try.prog X = .ok (.enter 29 args) X := by intro _ _; rfl
  obtain ⟨a1, c1, rfl⟩ := hr.s.len
  obtain ⟨a2, c2, rfl⟩ := hr.d.lenV hC.dl
  obtain ⟨a3, c3, rfl⟩ := hv.len
  have hat := fun (i B : Nat) (W : World) (h : Below w.heap.size w W) (hB : BoxC W B 22 #[.slice a3 bits.length c3]) => at_any (.slice a3 bits.length c3) bits B i W (hv.mono h) hb hB
  have hB := (((((Below.refl w.heap.size w).alloc (Nat.le_refl _) (.cells #[.slice a1 C.s.length c1, .int .i64 C.co, .int .i64 C.ge, .slice a2 C.s.length c2, .int .i64 C.lv] 32)).alloc (by simp) (.cells #[.slice a3 bits.length c3] 22)).alloc (by simp; omega) (.cells #[.slice none 0 0, .int .u64 0, .int .u64 0] 37)).alloc (by simp; omega) (.cells #[.slice none 0 0, .int .u64 0, .int .u64 0] 37))
  have b1 := (((BoxC.new w 32 #[.slice a1 C.s.length c1, .int .i64 C.co, .int .i64 C.ge, .slice a2 C.s.length c2, .int .i64 C.lv]).alloc (.cells #[.slice a3 bits.length c3] 22)).alloc (.cells #[.slice none 0 0, .int .u64 0, .int .u64 0] 37)).alloc (.cells #[.slice none 0 0, .int .u64 0, .int .u64 0] 37)
  have b2 := ((BoxC.new (w.alloc (.cells #[.slice a1 C.s.length c1, .int .i64 C.co, .int .i64 C.ge, .slice a2 C.s.length c2, .int .i64 C.lv] 32)) 22 #[.slice a3 bits.length c3]).alloc (.cells #[.slice none 0 0, .int .u64 0, .int .u64 0] 37)).alloc (.cells #[.slice none 0 0, .int .u64 0, .int .u64 0] 37)
  have b3 := (BoxC.new ((w.alloc (.cells #[.slice a1 C.s.length c1, .int .i64 C.co, .int .i64 C.ge, .slice a2 C.s.length c2, .int .i64 C.lv] 32)).alloc (.cells #[.slice a3 bits.length c3] 22)) 37 #[.slice none 0 0, .int .u64 0, .int .u64 0]).alloc (.cells #[.slice none 0 0, .int .u64 0, .int .u64 0] 37)
  have b4 := BoxC.new (((w.alloc (.cells #[.slice a1 C.s.length c1, .int .i64 C.co, .int .i64 C.ge, .slice a2 C.s.length c2, .int .i64 C.lv] 32)).alloc (.cells #[.slice a3 bits.length c3] 22)).alloc (.cells #[.slice none 0 0, .int .u64 0, .int .u64 0] 37)) 37 #[.slice none 0 0, .int .u64 0, .int .u64 0]
  simp only [World.size_alloc] at b2 b3 b4
  have hn := hC.n
  replace hat := Lib.hid hat
  replace hent := Lib.hid hent
  clear hv
  go_enter Try.func10, Try.ntmps10
  go_wp2_with fail
  go_loopw [7, 8, 13] (fun _ _ i X => ∃ (k : Nat) (u : Value), k ≤ C.s.length ∧ i = .int .i64 k ∧ BoxC X w.heap.size 32 #[.slice a1 C.s.length c1, .int .i64 C.co, .int .i64 C.ge, .slice a2 C.s.length c2, .int .i64 C.lv] ∧ BoxC X (w.heap.size + 1) 22 #[.slice a3 bits.length c3] ∧ BoxC X (w.heap.size + 2) 37 #[.slice none 0 0, .int .u64 0, .int .u64 0] ∧ BoxC X (w.heap.size + 3) 37 #[u, .int .u64 0, .int .u64 0] ∧
    RowU w.heap.size (fun _ => (0, 0, 0)) (0, 0, 0) u ((drawS C bits).take k) X ∧ Below w.heap.size w X) (fun _ _ i _ => C.s.length - (intOf i).toNat)
  case atStart => exact ⟨0, _, Nat.zero_le _, rfl, b1, b2, b3, b4, by rw [List.take_zero]; exact RowX.nil _ _ _ _ _ _ _, hB⟩
  case round =>
    clear b1 b2 b3 b4 hB
    obtain ⟨k, u, hk, rfl, b1, b2, b3, b4, hR, hBX⟩ := hrel
    by_cases hlt : k < C.s.length
    · obtain ⟨b, off, cap', he, hc⟩ := (hr.mono hBX).s.at hlt
      cases he
      have hck := hc k hlt
      have hki : (k : Int) < (C.s.length : Int) := by omega
      obtain ⟨m, hm, hm4⟩ : ∃ m : Nat, nth C.s k = (m : Int) ∧ m ≤ 4 := ⟨(nth C.s k).toNat, by have := hC.s k; omega, by have := hC.s k; omega⟩
      rw [hm] at hck
      have hV := mask_and (atB_byte hb k) hm4
      have hnx : nth (drawS C bits) k = atB bits k % 2 ^ m := by rw [drawS_nth hlt, hm]; rfl
      generalize atB bits k % 2 ^ m = z at hV hnx
      have htk := take_nth (xs := drawS C bits) (k := k) (by rw [drawS_len]; exact hlt)
      rw [hnx] at htk
      replace htk := Lib.hid htk
      replace hnx := Lib.hid hnx
      have hdl : ((drawS C bits).take k).length = k := by rw [List.length_take, drawS_len]; omega
      generalize (drawS C bits).take k = dk at hR hdl htk
      obtain ⟨a4, cap4, rfl⟩ := hR.len
      rw [hdl] at b4 hR
      have p0 := b1.cell 0 rfl
      have q0 := b4.cell 0 rfl
      have f0 := b4.frozen 0
      have hat1 := Lib.hid (hat.out k (w.heap.size + 1) wr.drew hBX.drew b2.drew)
      have hblX := b1.lt
      have hbl4 := b4.lt
      clear hc
      have hdr : Below wr.heap.size wr wr.drew := (Below.refl _ _).drew
      have hR9 : RowX w.heap.size (fun _ => (0, 0, 0)) (0, 0, 0) 35 1 (.slice a4 k cap4) dk.length (fun j => .int .u64 (nth dk j)) (wr.alloc (.cells #[.int .u64 z] 35)).drew := (hR.alloc (.cells #[.int .u64 z] 35)).drew
      have b49 := (b4.alloc (.cells #[.int .u64 z] 35)).drew
      have hlo9 : w.heap.size ≤ (wr.alloc (.cells #[.int .u64 z] 35)).drew.heap.size := by have := hBX.size; simp; omega
      have hnw9 : ∀ j u, [Value.int .u64 z][j]? = some u → (wr.alloc (.cells #[.int .u64 z] 35)).drew.cell? ((⟨wr.heap.size, 0, none⟩ : Addr).add j) = some u := laid_news wr [.int .u64 z] 35
      have h19 : ∀ u, u ∈ [Value.int .u64 z] → u.oneCell' = true := by simp [Value.oneCell']
      have h63 : dk.length + 1 ≤ maxLen := by unfold maxLen; omega
      have hby : (dk.length + 1) * 8 ≤ 140737488355328 := by omega
      replace hnw9 := Lib.hid hnw9
      replace hR9 := Lib.hid hR9
      replace b49 := Lib.hid b49
      replace hlo9 := Lib.hid hlo9
      replace h19 := Lib.hid h19
      replace h63 := Lib.hid h63
      replace hby := Lib.hid hby
      go_wp2_with fail
      go_region_law (first
        | (refine step_apX ap34 (by rfl) _ _ (by rfl) (by rfl) hR9.out hlo9.out ⟨wr.heap.size, 0, none⟩ 1 [.int .u64 z] (by rfl) (by rfl) hnw9.out h19.out h63.out hby.out ?_; intro v' w4 hrow4 hfr4 hoth4; obtain ⟨a6, cap6, rfl⟩ := hrow4.len; have b44 := b49.out.oth hoth4 (by decide); have x7 := b44.cell 0 rfl; have e7 := b44.frozen 0; have hbl5 := b44.lt)
        | (refine step_enter 29 #[.int .i64 k, .pointer (some ⟨w.heap.size + 1, 0, none⟩)] (by rfl) (by simp [go_sem]) ?_; (with_reducible refine hat1.out.mono ?_); rintro e w2 ⟨rfl, rfl⟩; refine ⟨_, rfl, ?_⟩))
      all_goals
        have hfb : Below w.heap.size w w4 := ((hBX.alloc hBX.size (.cells #[.int .u64 z] 35)).drew).trans (hfr4.below hlo9.out)
        have b14 := ((b1.alloc (.cells #[.int .u64 z] 35)).drew).oth hoth4 (by decide)
        have b24 := ((b2.alloc (.cells #[.int .u64 z] 35)).drew).oth hoth4 (by decide)
        have b34 := ((b3.alloc (.cells #[.int .u64 z] 35)).drew).oth hoth4 (by decide)
        have hR4 := RowU.push1 (κ := fun _ => (0, 0, 0)) hrow4 (fun _ => rfl)
        rw [hdl] at hR4
        have b45 := b44.set 0 (.slice a6 (k + 1) cap6)
        simp only [List.setIfInBounds_toArray, List.set_cons_zero] at b45
        change BoxC (w4.setCell ⟨w.heap.size + 1 + 1 + 1, 0, none⟩ (.slice a6 (k + 1) cap6)) (w.heap.size + 3) 37 _ at b45
        have hR5 : RowU w.heap.size (fun _ => (0, 0, 0)) (0, 0, 0) (.slice a6 (k + 1) cap6) (dk ++ [z]) (w4.setCell ⟨w.heap.size + 1 + 1 + 1, 0, none⟩ (.slice a6 (k + 1) cap6)) := RowX.box hR4 b44 (by decide) 0 (.slice a6 (k + 1) cap6)
        go_wp2_with fail
        go_roundw
        case rel => exact ⟨k + 1, _, by omega, by go_num, b14.other (p := ⟨w.heap.size + 1 + 1 + 1, 0, none⟩) (by show w.heap.size ≠ w.heap.size + 1 + 1 + 1; omega) _, b24.other (p := ⟨w.heap.size + 1 + 1 + 1, 0, none⟩) (by show w.heap.size + 1 ≠ w.heap.size + 1 + 1 + 1; omega) _, b34.other (p := ⟨w.heap.size + 1 + 1 + 1, 0, none⟩) (by show w.heap.size + 2 ≠ w.heap.size + 1 + 1 + 1; omega) _, b45, by rw [htk.out]; exact hR5, hfb.setCell (p := ⟨w.heap.size + 1 + 1 + 1, 0, none⟩) (by show w.heap.size ≤ w.heap.size + 1 + 1 + 1; omega) _⟩
        case measure => simp [intOf]; omega
    · obtain rfl : k = C.s.length := by omega
      have hRl : ((drawS C bits).take C.s.length).length = C.s.length := by rw [List.length_take, drawS_len]; omega
      have hsl : (drawS C bits).take C.s.length = drawS C bits := List.take_of_length_le (by rw [drawS_len]; omega)
      rw [hsl] at hR
      obtain ⟨a4, cap4, rfl⟩ := hR.len
      rw [drawS_len] at b4 hR
      have hRb := Lib.hid hR
      obtain ⟨m, hm, hm4⟩ : ∃ m : Nat, C.co = (m : Int) ∧ m ≤ 4 := ⟨C.co.toNat, by have := hC.co; omega, by have := hC.co; omega⟩
      have hV := mask_and (atB_byte hb C.s.length) hm4
      have hV2 := mask_and (atB_byte hb (C.s.length + 1)) (by omega : C.s.length ≤ 4)
      have hdr1 : (drawR C bits).c = atB bits C.s.length % 2 ^ m := by show atB bits C.s.length % 2 ^ C.co.toNat = _; rw [hm]; rfl
      have hdr2 : (drawR C bits).o = atB bits (C.s.length + 1) % 2 ^ C.s.length := rfl
      generalize atB bits C.s.length % 2 ^ m = z1 at hV hdr1
      generalize atB bits (C.s.length + 1) % 2 ^ C.s.length = z2 at hV2 hdr2
      replace hdr1 := Lib.hid hdr1
      replace hdr2 := Lib.hid hdr2
      rw [hm] at b1
      have hm0 := Lib.hid hm
      have hw1 : IntKind.i64.wrap ((C.s.length : Int) + 1) = (C.s.length : Int) + 1 := IntWalk.i64_in _ (by omega)
      have hc8 := Lib.hid (hat.out C.s.length (w.heap.size + 1) wr.drew hBX.drew b2.drew)
      have p0 := b1.cell 0 rfl
      have p1 := b1.cell 1 rfl
      have q0 := b4.cell 0 rfl
      have q1 := b4.cell 1 rfl
      have q2 := b4.cell 2 rfl
      have f1 := b4.frozen 1
      have f2 := b4.frozen 2
      have p0' : wr.drew.cell? ⟨w.heap.size, 0, none⟩ = some (.slice a1 C.s.length c1) := p0
      have p1' : wr.drew.cell? ⟨w.heap.size, 1, none⟩ = some (.int .i64 (m : Int)) := p1
      clear hm hsl hRl
      go_wp2_with fail
      go_still_tail 11, (by kernel_rfl)
      still_call (hc8.out)
      repeat still_step
      refine wpStill_nil ?_
      change wpList _ _ _ _ _ wr.drew
      have f1' : wr.drew.frozen? ⟨w.heap.size + 3, 1, none⟩ = false := f1
      have q1' : wr.drew.cell? ⟨w.heap.size + 3, 1, none⟩ = some (.int .u64 0) := q1
      go_wp2_with fail
      have c1' := b1.other (p := ⟨w.heap.size + 1 + 1 + 1, 1, none⟩) (by show w.heap.size ≠ w.heap.size + 1 + 1 + 1; omega) (.int .u64 z1)
      have c2' := b2.other (p := ⟨w.heap.size + 1 + 1 + 1, 1, none⟩) (by show w.heap.size + 1 ≠ w.heap.size + 1 + 1 + 1; omega) (.int .u64 z1)
      have c3' := b3.other (p := ⟨w.heap.size + 1 + 1 + 1, 1, none⟩) (by show w.heap.size + 2 ≠ w.heap.size + 1 + 1 + 1; omega) (.int .u64 z1)
      have c4' := b4.set 1 (.int .u64 z1)
      change BoxC (wr.setCell ⟨w.heap.size + 1 + 1 + 1, 1, none⟩ (.int .u64 z1)) (w.heap.size + 3) 37 _ at c4'
      simp only [List.setIfInBounds_toArray, List.set_cons_zero, List.set_cons_succ] at c4'
      have hR2 : RowU w.heap.size (fun _ => (0, 0, 0)) (0, 0, 0) (.slice a4 C.s.length cap4) (drawS C bits) (wr.setCell ⟨w.heap.size + 1 + 1 + 1, 1, none⟩ (.int .u64 z1)) := hRb.out.box b4 (by decide) 1 (.int .u64 z1)
      have hB2 := hBX.setCell (p := ⟨w.heap.size + 1 + 1 + 1, 1, none⟩) (by show w.heap.size ≤ w.heap.size + 1 + 1 + 1; omega) (.int .u64 z1)
      generalize wr.setCell ⟨w.heap.size + 1 + 1 + 1, 1, none⟩ (.int .u64 z1) = X8 at c1' c2' c3' c4' hR2 hB2 ⊢
      clear b1 b2 b3 b4 hR hBX p0 p1 q0 q1 q2 f1 f2 p0' p1' f1' q1' hc8 hRb
      have hc9 : Hid (Calls Try.prog 29 #[.int .i64 ((C.s.length : Int) + 1), .pointer (some ⟨w.heap.size + 1, 0, none⟩)] X8.drew.drew (fun e w' => e = .returned (.int .u64 (atB bits (C.s.length + 1))) ∧ w' = X8.drew.drew)) := Lib.hid (by have h := hat.out (C.s.length + 1) (w.heap.size + 1) X8.drew.drew hB2.drew.drew c2'.drew.drew; simpa using h)
      generalize hX9 : X8.drew = X9 at hc9 ⊢
      have e1' := c1'.drew
      rw [hX9] at e1'
      have e3' := c3'.drew
      rw [hX9] at e3'
      have e4' := c4'.drew
      rw [hX9] at e4'
      have hR3 : RowU w.heap.size (fun _ => (0, 0, 0)) (0, 0, 0) (.slice a4 C.s.length cap4) (drawS C bits) X9 := by rw [← hX9]; exact hR2
      have hB3 : Below w.heap.size w X9 := by rw [← hX9]; exact hB2.drew
      clear c1' c2' c3' c4' hR2 hB2 hX9
      have p0' : X9.drew.cell? ⟨w.heap.size, 0, none⟩ = some (.slice a1 C.s.length c1) := e1'.cell 0 rfl
      have q2' : X9.drew.cell? ⟨w.heap.size + 1 + 1 + 1, 2, none⟩ = some (.int .u64 0) := e4'.cell 2 rfl
      have f2' : X9.drew.frozen? ⟨w.heap.size + 1 + 1 + 1, 2, none⟩ = false := e4'.frozen 2
      go_still_tail 13, (by kernel_rfl)
      still_call (hc9.out)
      repeat still_step
      refine wpStill_nil ?_
      change wpList _ _ _ _ _ X9.drew
      have x0 : X9.cell? ⟨w.heap.size + 1 + 1 + 1, 0, none⟩ = some (.slice a4 C.s.length cap4) := e4'.cell 0 rfl
      have x1 : X9.cell? ⟨w.heap.size + 1 + 1 + 1, 1, none⟩ = some (.int .u64 z1) := e4'.cell 1 rfl
      have x2 : X9.cell? ⟨w.heap.size + 1 + 1 + 1, 2, none⟩ = some (.int .u64 0) := e4'.cell 2 rfl
      have y0 : X9.cell? ⟨w.heap.size + 1 + 1, 0, none⟩ = some (.slice none 0 0) := e3'.cell 0 rfl
      have y1 : X9.cell? ⟨w.heap.size + 1 + 1, 1, none⟩ = some (.int .u64 0) := e3'.cell 1 rfl
      have y2 : X9.cell? ⟨w.heap.size + 1 + 1, 2, none⟩ = some (.int .u64 0) := e3'.cell 2 rfl
      have g0 : X9.frozen? ⟨w.heap.size + 1 + 1, 0, none⟩ = false := e3'.frozen 0
      have g1 : X9.frozen? ⟨w.heap.size + 1 + 1, 1, none⟩ = false := e3'.frozen 1
      have g2 : X9.frozen? ⟨w.heap.size + 1 + 1, 2, none⟩ = false := e3'.frozen 2
      go_wp2
      have d3 := e3'.other (p := ⟨w.heap.size + 1 + 1 + 1, 2, none⟩) (by show w.heap.size + 2 ≠ w.heap.size + 1 + 1 + 1; omega) (.int .u64 z2)
      have d4 := e4'.set 2 (.int .u64 z2)
      change BoxC (X9.setCell ⟨w.heap.size + 1 + 1 + 1, 2, none⟩ (.int .u64 z2)) (w.heap.size + 3) 37 _ at d4
      simp only [List.setIfInBounds_toArray, List.set_cons_zero, List.set_cons_succ] at d4
      have hR4 := RowX.box hR3 e4' (by decide) 2 (.int .u64 z2)
      have hB4 := hB3.setCell (p := ⟨w.heap.size + 1 + 1 + 1, 2, none⟩) (by show w.heap.size ≤ w.heap.size + 1 + 1 + 1; omega) (.int .u64 z2)
      change RowX _ _ _ _ _ _ _ _ (X9.setCell ⟨w.heap.size + 1 + 1 + 1, 2, none⟩ (.int .u64 z2)) at hR4
      generalize X9.setCell ⟨w.heap.size + 1 + 1 + 1, 2, none⟩ (.int .u64 z2) = Y9 at d3 d4 hR4 hB4 ⊢
      clear e1' e3' e4' hR3 hB3 p0' q2' f2' hc9 x0 x1 x2 y0 y1 y2 g0 g1 g2
      have d5 := d3.put3 (.slice a4 C.s.length cap4) (.int .u64 z1) (.int .u64 z2)
      have hB5 := below_put3 (B := w.heap.size + 2) (.slice a4 C.s.length cap4) (.int .u64 z1) (.int .u64 z2) hB4 (by omega)
      have hR5 : RowU w.heap.size (fun _ => (0, 0, 0)) (0, 0, 0) (.slice a4 C.s.length cap4) (drawS C bits) (put3 Y9 (w.heap.size + 2) (.slice a4 C.s.length cap4) (.int .u64 z1) (.int .u64 z2)) := RowX.heap hR4 (fun g cur _ _ h3 => heap_put3 _ _ _ (fun e' => by
        subst e'
        rw [show Y9.heap[w.heap.size + 2]? = _ from d3] at h3
        cases h3))
      change Below w.heap.size w (((Y9.setCell ⟨w.heap.size + 1 + 1, 0, none⟩ (.slice a4 C.s.length cap4)).setCell ⟨w.heap.size + 1 + 1, 1, none⟩ (.int .u64 z1)).setCell ⟨w.heap.size + 1 + 1, 2, none⟩ (.int .u64 z2)) at hB5
      change RowX _ _ _ _ _ _ _ _ (((Y9.setCell ⟨w.heap.size + 1 + 1, 0, none⟩ (.slice a4 C.s.length cap4)).setCell ⟨w.heap.size + 1 + 1, 1, none⟩ (.int .u64 z1)).setCell ⟨w.heap.size + 1 + 1, 2, none⟩ (.int .u64 z2)) at hR5
      change BoxC (((Y9.setCell ⟨w.heap.size + 1 + 1, 0, none⟩ (.slice a4 C.s.length cap4)).setCell ⟨w.heap.size + 1 + 1, 1, none⟩ (.int .u64 z1)).setCell ⟨w.heap.size + 1 + 1, 2, none⟩ (.int .u64 z2)) (w.heap.size + 2) 37 #[.slice a4 C.s.length cap4, .int .u64 z1, .int .u64 z2] at d5
      generalize ((Y9.setCell ⟨w.heap.size + 1 + 1, 0, none⟩ (.slice a4 C.s.length cap4)).setCell ⟨w.heap.size + 1 + 1, 1, none⟩ (.int .u64 z1)).setCell ⟨w.heap.size + 1 + 1, 2, none⟩ (.int .u64 z2) = Z9 at d5 hB5 hR5 ⊢
      refine bodyPost_ret (ret_cell (B := w.heap.size + 2) Try.results10 rfl d5.drew Try.underlying37 size37) rfl ⟨.slice a4 C.s.length cap4, by rw [hdr1.out, hdr2.out], NewU.ofU (RowX.drew hR5), hB5.drew⟩
end Go.Proofs.Ytgnamahdchefnaa
