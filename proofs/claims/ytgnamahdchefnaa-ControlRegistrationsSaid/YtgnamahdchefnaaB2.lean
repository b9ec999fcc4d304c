/- The contract of the model's start. Conditions: consoles of plans. -/
import Derived.Test.YtgnamahdchefnaaBA
import Derived.Test.YtgnamahdchefnaaA2
namespace Go.Proofs.Ytgnamahdchefnaa
open Go.RowKit Go.Shelf

def ZPost (n : Nat) (w : World) (e : Ending) (w' : World) : Prop := ∃ v', e = .returned (regV v' 0 0) ∧ NewU w.heap.size (zeros n) v' w' ∧ Below w.heap.size w w'
theorem num_nil (K : IntKind) (w : World) : NumSl K w (.slice none 0 0) [] := .inl ⟨⟨none, 0, rfl⟩, rfl⟩
set_option linter.unusedVariables false in
set_option maxRecDepth 100000 in
set_option maxHeartbeats 4000000 in
theorem start_any (x y : Value) (C : Con) (w : World) (hC : C.Ok) (hr : ConR w x y C) : Calls Try.prog 27 #[conV x y C.co C.ge C.lv] w (StPost (startF C) w) := by
  obtain ⟨n, hn⟩ : ∃ n, C.s.length = n := ⟨_, rfl⟩
  obtain ⟨G, hG⟩ : ∃ G : Nat, C.ge = G := ⟨C.ge.toNat, by have := hC.ge; omega⟩
  obtain ⟨L, hL⟩ : ∃ L : Nat, C.lv = L := ⟨C.lv.toNat, by have := hC.lv; omega⟩
  have hn3 : n ≤ 3 := by have := hC.n; omega
  have hG3 : G ≤ 3 := by have := hC.ge; omega
  have hL2 : L ≤ 2 := by have := hC.lv; omega
  obtain ⟨a1, c1, rfl⟩ := hr.s.lenV hn
  obtain ⟨a2, c2, rfl⟩ := hr.d.lenV (hC.dl.trans hn)
  have hdr : ∀ (X : World), Below w.heap.size w X → Calls Try.prog 10 #[conV (.slice a1 n c1) (.slice a2 n c2) C.co (G : Int) (L : Int), .slice none 0 0] X (ZPost n X) := fun X h => by
    have h1 := Drawn_any (.slice a1 n c1) (.slice a2 n c2) (.slice none 0 0) C [] X hC (hr.mono h) (num_nil _ _) (fun k hk => by simp at hk) (by simp)
    rw [draw_nil, hG, hL] at h1
    subst hn
    exact h1
  have hcl : ∀ (u : Value) (X : World), NumSl .u64 X u (zeros n) → Calls Try.prog 18 #[regV u 0 0] X (ZPost n X) := fun u X h => lawClone_any u ⟨zeros n, 0, 0⟩ X h (by show (zeros n).length ≤ 1000; rw [zeros_len]; omega)
  have hst : startF C = ⟨⟨zeros n, 0, 0⟩, 0, List.replicate L (List.replicate G ⟨zeros n, 0, 0⟩), List.replicate L (C.d.map (fun k => zeros k.toNat)), []⟩ := by
    unfold startF noneR
    rw [hn, hG, hL, Int.toNat_natCast, Int.toNat_natCast]
  rw [hst, hG, hL]
  clear hst
  have hdl : C.d.length = n := hC.dl.trans hn
  have hd2 := hC.d
  have hrd : ∀ (X : World), Below w.heap.size w X → NumSl .i64 X (.slice a2 n c2) C.d := fun X h => (hr.mono h).d
  obtain ⟨v0, hv0⟩ : ∃ v0, C.d.map (fun k => zeros k.toNat) = v0 := ⟨_, rfl⟩
  have hv0l : v0.length = n := by rw [← hv0]; simpa using hdl
  have hv0g : ∀ j, j < n → get v0 j = zeros (nth C.d j).toNat := fun j hj => by
    rw [← hv0]
    simp [get, nth, show j < C.d.length by omega]
  rw [hv0]
  have hB := ((Below.refl w.heap.size w).alloc (Nat.le_refl _) (.cells #[.slice a1 n c1, .int .i64 C.co, .int .i64 (G : Int), .slice a2 n c2, .int .i64 (L : Int)] 32)).alloc (by simp) (.cells #[.slice none 0 0, .int .u64 0, .int .u64 0, .int .i64 0, .slice none 0 0, .slice none 0 0, .slice none 0 0] 42)
  have bP := (BoxC.new w 32 #[.slice a1 n c1, .int .i64 C.co, .int .i64 (G : Int), .slice a2 n c2, .int .i64 (L : Int)]).alloc (.cells #[.slice none 0 0, .int .u64 0, .int .u64 0, .int .i64 0, .slice none 0 0, .slice none 0 0, .slice none 0 0] 42)
  have bR := BoxC.new (w.alloc (.cells #[.slice a1 n c1, .int .i64 C.co, .int .i64 (G : Int), .slice a2 n c2, .int .i64 (L : Int)] 32)) 42 #[.slice none 0 0, .int .u64 0, .int .u64 0, .int .i64 0, .slice none 0 0, .slice none 0 0, .slice none 0 0]
  simp only [World.size_alloc] at bR
  replace hv0l := Lib.hid hv0l
  replace hv0g := Lib.hid hv0g
  replace hd2 := Lib.hid hd2
  replace hrd := Lib.hid hrd
  replace hdr := Lib.hid hdr
  replace hcl := Lib.hid hcl
  replace hdl := Lib.hid hdl
  clear hv0 hr hC hn hG hL
  go_enter Try.func27, Try.ntmps27
  go_wp2_with fail
  generalize hW : (w.alloc (.cells #[.slice a1 n c1, .int .i64 C.co, .int .i64 (G : Int), .slice a2 n c2, .int .i64 (L : Int)] 32)).alloc (.cells #[.slice none 0 0, .int .u64 0, .int .u64 0, .int .i64 0, .slice none 0 0, .slice none 0 0, .slice none 0 0] 42) = W at hB bP bR ⊢
  have hWs : W.heap.size = w.heap.size + 2 := by rw [← hW]; simp
  clear hW
  replace hWs := Lib.hid hWs
  refine (hdr.out _ hB).mono ?_
  rintro e w1 ⟨u1, rfl, hn1, hb1⟩
  obtain ⟨b0, q0, rfl⟩ := hn1.num.lenV (zeros_len n)
  have h1 := hB.trans (hb1.mono hB.size)
  have hb2 := (Below.refl w1.heap.size w1).alloc (Nat.le_refl _) (.cells #[.slice b0 n q0, .int .u64 0, .int .u64 0] 37)
  have bN := BoxC.new w1 37 #[.slice b0 n q0, .int .u64 0, .int .u64 0]
  have bP1 := (bP.grown hb1).grown hb2
  have bR1 := (bR.grown hb1).grown hb2
  have hN1 := (hn1.below hb2).num
  have hB1 := h1.trans (hb2.mono h1.size)
  have hw1 : w.heap.size + 2 ≤ w1.heap.size := by have := hb1.size; have := hWs.out; omega
  clear bP bR hb1 hb2 h1 hn1 hB
  have m0 := bN.cell 0 rfl
  have m1 := bN.cell 1 rfl
  have m2 := bN.cell 2 rfl
  go_wp2_with fail
  generalize w1.alloc (.cells #[.slice b0 n q0, .int .u64 0, .int .u64 0] 37) = W1 at bN bP1 bR1 hN1 hB1 ⊢
  generalize w1.heap.size = B2 at bN hw1 ⊢
  clear m0 m1 m2
  refine (hcl.out _ _ hN1).mono ?_
  rintro e w2 ⟨u2, rfl, hn2, hb1⟩
  obtain ⟨b1, q1, rfl⟩ := hn2.num.lenV (zeros_len n)
  have hb2 := (Below.refl w2.heap.size w2).alloc (Nat.le_refl _) (.cells #[.slice b1 n q1, .int .u64 0, .int .u64 0, .int .i64 0, .slice none 0 0, .slice none 0 0, .slice none 0 0] 42)
  have bS := BoxC.new w2 42 #[.slice b1 n q1, .int .u64 0, .int .u64 0, .int .i64 0, .slice none 0 0, .slice none 0 0, .slice none 0 0]
  have bP := (bP1.grown hb1).grown hb2
  have bR := (bR1.grown hb1).grown hb2
  have bN2 := (bN.grown hb1).grown hb2
  have hX0 := RowX.below (hn2.row (Nat.le_refl _) (fun _ => (0, 0, 0)) (0, 0, 0)) hb2
  have hBW := hb1.trans (hb2.mono hb1.size)
  have hw2 : B2 < w2.heap.size ∧ W1.heap.size ≤ w2.heap.size := ⟨Nat.lt_of_lt_of_le bN.lt hb1.size, hb1.size⟩
  obtain ⟨hw2, hw3⟩ := hw2
  clear bP1 bR1 bN hb1 hb2 hn2
  have p4 := bP.cell 4 rfl
  go_wp2_with fail
  generalize w2.alloc (.cells #[.slice b1 n q1, .int .u64 0, .int .u64 0, .int .i64 0, .slice none 0 0, .slice none 0 0, .slice none 0 0] 42) = W2 at bS bP bR bN2 hX0 hBW p4 ⊢
  generalize w2.heap.size = B3 at bS hw2 hw3 ⊢
  replace hN1 := Lib.hid hN1
  replace hB1 := Lib.hid hB1
  go_loopw [16] (fun i X => ∃ (k : Nat) (κ : Nat → Role) (ug uv : Value), k ≤ L ∧ i = .int .i64 k ∧ BoxC X B3 42 #[.slice b1 n q1, .int .u64 0, .int .u64 0, .int .i64 0, ug, uv, .slice none 0 0] ∧ BoxC X w.heap.size 32 #[.slice a1 n c1, .int .i64 C.co, .int .i64 (G : Int), .slice a2 n c2, .int .i64 (L : Int)] ∧ BoxC X (w.heap.size + 1) 42 #[.slice none 0 0, .int .u64 0, .int .u64 0, .int .i64 0, .slice none 0 0, .slice none 0 0, .slice none 0 0] ∧ BoxC X B2 37 #[.slice b0 n q0, .int .u64 0, .int .u64 0] ∧
    RowU W1.heap.size κ (0, 0, 0) (.slice b1 n q1) (zeros n) X ∧ GenO W1.heap.size κ ug (List.replicate k (List.replicate G ⟨zeros n, 0, 0⟩)) X ∧ DivO W1.heap.size κ uv (List.replicate k v0) X ∧ Below W1.heap.size W1 X) (fun i _ => L - (intOf i).toNat)
  case atStart => exact ⟨0, _, _, _, Nat.zero_le _, rfl, bS, bP, bR, bN2, hX0, OwL.nil _ _ _ _ _ _, OwL.nil _ _ _ _ _ _, hBW⟩
  case round =>
    clear bS bP bR bN2 hX0 hBW p4
    obtain ⟨k, κ, ug, uv, hk, rfl, bS, bP, bR, bN, hX, hG, hV, hBX⟩ := hrel
    by_cases hlt : k < L
    · have hki : (k : Int) < (L : Int) := by omega
      have p2 := bP.cell 2 rfl
      go_wp2_with fail
      obtain ⟨W2, hW2⟩ : ∃ W2, W2 = wr := ⟨_, rfl⟩
      subst hW2
      have hW2s := hBX.size
      go_loopw [5, 20] (fun ul i X => ∃ (j : Nat) (κl : Nat → Role), j ≤ G ∧ i = .int .i64 j ∧ RegsO W2.heap.size κl (1, 0, 0) (fun j => (2, j, 0)) ul (List.replicate j ⟨zeros n, 0, 0⟩) X ∧ Below W2.heap.size W2 X) (fun _ i _ => G - (intOf i).toNat)
      case atStart => exact ⟨0, fun _ => (0, 0, 0), Nat.zero_le _, rfl, RegsO.nil _ _ _ _ _, Below.refl _ _⟩
      case round =>
        obtain ⟨j, κl, hj, rfl, hL, hBY⟩ := hrel
        by_cases hlt2 : j < G
        · have hji : (j : Int) < (G : Int) := by omega
          have bN2 := bN.grown hBY
          have hc1 := Lib.hid (hcl.out (.slice b0 n q0) wr ((hN1.out.mono hBX).mono hBY))
          have hrs : List.replicate (j + 1) (⟨zeros n, 0, 0⟩ : Rg) = List.replicate j ⟨zeros n, 0, 0⟩ ++ [⟨zeros n, 0, 0⟩] := List.replicate_succ'
          have hrl : (List.replicate j (⟨zeros n, 0, 0⟩ : Rg)).length = j := List.length_replicate
          generalize List.replicate j (⟨zeros n, 0, 0⟩ : Rg) = gk at hL hrs hrl
          replace hrs := Lib.hid hrs
          obtain ⟨us, hrow, hels⟩ := hL
          have hYs := hBY.size
          have m0 := bN2.cell 0 rfl
          have m1 := bN2.cell 1 rfl
          have m2 := bN2.cell 2 rfl
          go_wp2_with fail
          refine hc1.out.mono ?_
          rintro e w3 ⟨v2, rfl, hnew, hb2⟩
          obtain ⟨a10, cap10, rfl⟩ := hnew.num.lenV (zeros_len n)
          have hb3 := (Below.refl w3.heap.size w3).alloc (Nat.le_refl _) (.cells #[.slice a10 n cap10, .int .u64 0, .int .u64 0] 37)
          have hrow2 := Mv.newkM (r := (2, gk.length, 0)) (M := wr.heap.size) (fun _ => True) hb2 (Nat.le_refl _) _ _ _ _ _ _ trivial (by decide) hrow
          have hlo3 : W2.heap.size ≤ w3.heap.size := Nat.le_trans hYs hb2.size
          go_wp2_with (at_builtin; refine wpList_apX ap40 rfl _ _ rfl rfl (hrow2.alloc _) (by simp; omega) ⟨w3.heap.size, 0, none⟩ 1 [.slice a10 n cap10, .int .u64 0, .int .u64 0] rfl rfl (laid_news w3 _ 37) (by simp [Value.oneCell']) (by unfold maxLen; omega) (by omega) ?_; intro v' w4 hrow4 hfr4 hoth4)
          have hL' := regs_push (rg := ⟨zeros n, 0, 0⟩) (rs := fun j => (2, j, 0)) (fun j => by simp) hels hb2 (Nat.le_refl _) hYs hnew hb3 hrow4 hfr4
          rw [← hrs.out] at hL'
          have h1 := hBY.trans (hb2.mono hYs)
          have h2 := h1.trans (hb3.mono h1.size)
          have h4 := h2.trans (hfr4.below h2.size)
          go_roundw
          case rel => exact ⟨j + 1, _, by omega, by go_num, hL', h4⟩
          case measure => simp [intOf]; omega
        · obtain rfl : G = j := by omega
          obtain ⟨a9, cap9, hu9⟩ := hL.rd.lenN (List.length_replicate (n := G) (a := (⟨zeros n, 0, 0⟩ : Rg)))
          subst hu9
          have bP3 := bP.grown hBY
          have hBX3 := hBX.trans (hBY.mono hBX.size)
          have p3 := bP3.cell 3 rfl
          have hW3s := hBX3.size
          obtain ⟨W3, hW3⟩ : ∃ W3, W3 = wr := ⟨_, rfl⟩
          subst hW3
          clear p2
          go_wp2_with fail
          go_loopw [6, 31] (fun ul i X => ∃ (q : Nat) (κl : Nat → Role), q ≤ n ∧ i = .int .i64 q ∧ LvlC W3.heap.size κl ul (v0.take q) X ∧ Below W3.heap.size W3 X) (fun _ i _ => n - (intOf i).toNat)
          case atStart => exact ⟨0, fun _ => (0, 0, 0), Nat.zero_le _, rfl, by rw [List.take_zero]; exact OwL.nil _ _ _ _ _ _, Below.refl _ _⟩
          case round =>
            obtain ⟨q, κv, hq, rfl, hLv, hBZ⟩ := hrel
            by_cases hlt3 : q < n
            · obtain ⟨b, off, cap', he, hc⟩ := (hrd.out wr (hB1.out.trans ((hBX3.trans (hBZ.mono hBX3.size)).mono hB1.out.size))).atN hdl.out hlt3
              cases he
              have hcq := hc q hlt3
              obtain ⟨m, hm, hm2⟩ : ∃ m : Nat, nth C.d q = (m : Int) ∧ m ≤ 2 := ⟨(nth C.d q).toNat, by have := hd2.out q; omega, by have := hd2.out q; omega⟩
              have hgq := hv0g.out q hlt3
              rw [hm, Int.toNat_natCast] at hgq
              rw [hm] at hcq
              have hqi : (q : Int) < (n : Int) := by omega
              have hlk := take_get (xs := v0) (k := q) (by rw [hv0l.out]; exact hlt3)
              rw [hgq] at hlk
              have hgl : (v0.take q).length ≤ 3 := Nat.le_trans (List.length_take_le _ _) (by omega)
              generalize v0.take q = gk at hLv hlk hgl
              replace hlk := Lib.hid hlk
              obtain ⟨us, hrow, hels⟩ := hLv
              have hZs := hBZ.size
              have hmk := run_make34 m (by omega)
              have hnew := made_new m (by omega) wr
              have hb2 := (Below.refl wr.heap.size wr).alloc (Nat.le_refl _) (.cells (madeCells #[.int .u64 0] m) 35)
              have hb3 := (Below.refl (wr.alloc (.cells (madeCells #[.int .u64 0] m) 35)).heap.size (wr.alloc (.cells (madeCells #[.int .u64 0] m) 35))).alloc (Nat.le_refl _) (.cells #[rowS wr.heap.size m] 34)
              have hrow2 := Mv.newkM (r := (2, gk.length, 0)) (M := wr.heap.size) (fun _ => True) hb2 (Nat.le_refl _) _ _ _ _ _ _ trivial (by decide) hrow
              clear hc hgq hm
              go_wp2_with (at_builtin; refine wpList_apX ap59 rfl _ _ rfl rfl (hrow2.alloc _) (by simp; omega) ⟨wr.heap.size + 1, 0, none⟩ 1 [rowS wr.heap.size m] rfl rfl (by have h := laid_news (wr.alloc (.cells (madeCells #[.int .u64 0] m) 35)) [rowS wr.heap.size m] 34; simpa using h) (by simp [Value.oneCell']) (by unfold maxLen; omega) (by omega) ?_; intro v' w4 hrow4 hfr4 hoth4)
              have hL' := lvl_push hels hb2 (Nat.le_refl _) hZs hnew hb3 hrow4 hfr4
              rw [← hlk.out] at hL'
              have h1 := hBZ.trans (hb2.mono hZs)
              have h2 := h1.trans (hb3.mono h1.size)
              have h4 := h2.trans (hfr4.below h2.size)
              go_roundw
              case rel => exact ⟨q + 1, _, by omega, by go_num, hL', h4⟩
              case measure => simp [intOf]; omega
            · obtain rfl : n = q := by omega
              rw [List.take_of_length_le (by rw [hv0l.out]; exact Nat.le_refl _)] at hLv
              obtain ⟨a11, cap11, hu11⟩ := SlOf.lenN hLv.rd hv0l.out
              subst hu11
              go_wp2_with fail
              have hgl : (List.replicate k (List.replicate G (⟨zeros n, 0, 0⟩ : Rg))).length = k := List.length_replicate
              have hvl : (List.replicate k v0).length = k := List.length_replicate
              have hgs : List.replicate (k + 1) (List.replicate G (⟨zeros n, 0, 0⟩ : Rg)) = List.replicate k (List.replicate G ⟨zeros n, 0, 0⟩) ++ [List.replicate G ⟨zeros n, 0, 0⟩] := List.replicate_succ'
              have hvs : List.replicate (k + 1) v0 = List.replicate k v0 ++ [v0] := List.replicate_succ'
              generalize List.replicate k (List.replicate G (⟨zeros n, 0, 0⟩ : Rg)) = gs at hG hgl hgs
              generalize List.replicate k v0 = vs at hV hvl hvs
              obtain ⟨us, hrowG, helsG⟩ := hG
              obtain ⟨ws, hrowV, helsV⟩ := hV
              have mA := fun S => (Mv.mix (lo := W1.heap.size) (κ0 := κ) (κ := κl) (f := fGen gs.length) S hBY (Nat.le_refl _)).trans (Mv.mix (κ := κv) (f := fDiv vs.length) S hBZ (Nat.le_refl _))
              have hWs3 : W1.heap.size ≤ W3.heap.size := hBX3.size
              have T : Two W1.heap.size (kmix (kmix κ W2.heap.size κl (fGen gs.length)) W3.heap.size κv (fDiv vs.length)) (.slice b1 n q1) (zeros n) gs us ug (.slice a9 G cap9) (List.replicate G ⟨zeros n, 0, 0⟩) vs ws uv (.slice a11 n cap11) v0 wr := {
                d := mA (fun _ => True) _ _ _ _ _ _ trivial (by decide) hX
                rG := mA (fun _ => True) _ _ _ _ _ _ trivial (by decide) hrowG
                eG := fun j hj => (helsG j hj).map (fun v n C h => mA (fun _ => True) _ _ _ _ _ _ trivial (by decide) h) (fun j _ v n C h => mA (fun _ => True) _ _ _ _ _ _ trivial (by decide) h)
                nG := (hL.fit (κ0 := κ) (f := fGen gs.length) (r := (2, gs.length, 0)) (rs := fun i => (3, gs.length, i)) hW2s rfl (fun _ => rfl)).map (fun v n C h => Mv.mix (fun _ => True) hBZ (Nat.le_refl _) _ _ _ _ _ _ trivial (by decide) h) (fun j _ v n C h => Mv.mix (fun _ => True) hBZ (Nat.le_refl _) _ _ _ _ _ _ trivial (by decide) h)
                rV := mA (fun _ => True) _ _ _ _ _ _ trivial (by decide) hrowV
                eV := fun j hj => OwL.map (helsV j hj) (fun v n C h => mA (fun _ => True) _ _ _ _ _ _ trivial (by decide) h) (fun j _ u x h => mA (fun _ => True) _ _ _ _ _ _ trivial (by decide) h)
                nV := LvlC.fit hLv hWs3 }
              have hBXr := hBX3.trans (hBZ.mono hBX3.size)
              have bS4 := (bS.grown hBY).grown hBZ
              have bP4 := (bP.grown hBY).grown hBZ
              have bR4 := (bR.grown hBY).grown hBZ
              have bN4 := (bN.grown hBY).grown hBZ
              generalize kmix (kmix κ W2.heap.size κl (fGen gs.length)) W3.heap.size κv (fDiv vs.length) = κ2 at T
              clear mA helsG helsV hrowG hrowV hX hL hLv bS bP bR bN bP3 hBY hBZ p3
              refine region_head 11 (fun s => #[conV (.slice a1 n c1) (.slice a2 n c2) C.co (G : Int) (L : Int), .pointer (some ⟨w.heap.size, 0, none⟩), .pointer (some ⟨w.heap.size + 1, 0, none⟩), .pointer (some ⟨B2, 0, none⟩), .pointer (some ⟨B3, 0, none⟩), .slice a9 G cap9, .slice a11 n cap11, undef, u8, .agg #[.slice a1 n c1, .int .i64 C.co, .int .i64 (G : Int), .slice a2 n c2, .int .i64 (L : Int)], regV (.slice b0 n q0) 0 0, .agg #[.slice b0 n q0, .int .u64 0, .int .u64 0], regV (.slice b1 n q1) 0 0, .agg #[.slice b1 n q1, .int .u64 0, .int .u64 0, .int .i64 0, .slice none 0 0, .slice none 0 0, .slice none 0 0], .pointer (some ⟨w.heap.size, 4, none⟩), .int .i64 (L : Int), .int .i64 (k : Int), .bool true, .pointer (some ⟨w.heap.size, 2, none⟩), .int .i64 (G : Int), .int .i64 (G : Int), .bool false, u22, u23, u24, u25, u26, u27, .pointer (some ⟨w.heap.size, 3, none⟩), .slice a2 n c2, .int .i64 (n : Int), .int .i64 (n : Int), .bool false, u33, u34, u35, u36, u37, u38, u39, u40, s 0, s 1, s 2, s 3, s 4, s 5, s 6, s 7, s 8, s 9, s 10, u52, u53, undef]) (fun i => match i with | 0 => u41 | 1 => u42 | 2 => u43 | 3 => u44 | 4 => u45 | 5 => u46 | 6 => u47 | 7 => u48 | 8 => u49 | 9 => u50 | 10 => u51 | _ => undef) [] (SpT W1.heap.size κ2 wr.heap.size B3 ug (.slice a9 G cap9) us gs.length uv (.slice a11 n cap11) ws vs.length) (NpT W1.heap.size κ2 wr.heap.size ug us gs.length uv ws vs.length) (KeepW W1.heap.size W1 wr) (TwoR W1.heap.size (kapN κ2 wr.heap.size)) (by kernel_rfl) (by kernel_rfl) (by kernel_rfl) (by kernel_rfl) (by decide) (by kernel_rfl) ?base ?need ?step (fun i j u X X' hij _ h hr => spT_stable hij h hr) (fun i j X X' hij _ h hr => npT_stable hij h hr) ?tail
              case base => exact ⟨hBXr.drew, hBXr.size, Nat.le_refl _, fun _ _ _ _ _ _ => rfl⟩
              case need => exact fun i _ => ⟨fun _ => RowX.drew (T.rG.rekey (fun b _ hb h => (kfrom_old hb).trans h)), fun _ => RowX.drew (T.rV.rekey (fun b _ hb h => (kfrom_old hb).trans h))⟩
              case step =>
                intro i o hi ho s X hb hn hd
                have same : ∀ i, i ≠ 4 → i ≠ 9 → TwoR W1.heap.size (kapN κ2 wr.heap.size) i X X := fun i h1 h2 => .inr (.inr ⟨h1, h2, Below.refl _ _⟩)
                have bX := hb.box bS4 (by decide) (by decide)
                match i, hi with
                | 0, _ =>
                  simp at ho
                  subst ho
                  refine wp_val (v := .pointer (some ⟨B3, 4, none⟩)) (X' := X) (by simp [execOp, go_sem]) ⟨_, by simp [Act.put, upd], hb, rfl, same 0 (by decide) (by decide)⟩
                | 1, _ =>
                  simp at ho
                  subst ho
                  have h0 : s 0 = .pointer (some ⟨B3, 4, none⟩) := hd ⟨0, .data⟩ (by simp) rfl
                  have hc := bX.cell 4 rfl
                  refine wp_val (v := ug) (X' := X) (by simp [execOp, go_sem, h0, hc]) ⟨_, by simp [Act.put, upd], hb, rfl, same 1 (by decide) (by decide)⟩
                | 2, _ =>
                  simp at ho
                  subst ho
                  refine wp_val (v := .slice a9 G cap9) (X' := X) (by simp [execOp, go_sem]) ⟨_, by simp [Act.put, upd], hb, rfl, same 2 (by decide) (by decide)⟩
                | 3, _ =>
                  simp at ho
                  subst ho
                  have h2 : s 2 = .slice a9 G cap9 := hd ⟨2, .data⟩ (by simp) rfl
                  have hX : Below X.heap.size X (X.alloc (.cells #[.slice a9 G cap9] 40)) := (Below.refl _ X).alloc (Nat.le_refl _) _
                  have hR : TwoR W1.heap.size (kapN κ2 wr.heap.size) 3 X (X.alloc (.cells #[.slice a9 G cap9] 40)) := .inr (.inr ⟨by decide, by decide, hX⟩)
                  refine wp_val (v := .slice (some ⟨X.heap.size, 0, none⟩) 1 1) (X' := X.alloc (.cells #[.slice a9 G cap9] 40)) (by simp [execOp, go_sem, h2]) ⟨_, by simp [Act.put, upd], hb.step hR, ⟨X.heap.size, rfl, hb.size, by simp, (BoxC.new X 40 #[.slice a9 G cap9]).cell 0 rfl⟩, hR⟩
                | 4, _ =>
                  simp at ho
                  subst ho
                  have h1 : s 1 = ug := hd ⟨1, .data⟩ (by simp) rfl
                  obtain ⟨b, e3, hb1, hb2, hb3⟩ : NewCell wr.heap.size (.slice a9 G cap9) (s 3) X := hd ⟨3, .data⟩ (by simp) rfl
                  exact wp_apX ap38 (.tmp 42) (.tmp 44) rfl (by show s 1 = _; exact h1) (hn.1 rfl) hb.lo ⟨b, 0, none⟩ 1 [.slice a9 G cap9] (by show s 3 = _; exact e3) rfl (news_cell hb3) (by simp [Value.oneCell']) (by unfold maxLen; omega) (by omega)
                    (fun v' w' r1 r2 r3 => ⟨v', by simp [Act.put, upd], hb.step (i := 4) (.inl ⟨rfl, r2, r3⟩), Longer.of4 r1 hb.size, .inl ⟨rfl, r2, r3⟩⟩)
                | 5, _ =>
                  simp at ho
                  subst ho
                  refine wp_val (v := .pointer (some ⟨B3, 5, none⟩)) (X' := X) (by simp [execOp, go_sem]) ⟨_, by simp [Act.put, upd], hb, rfl, same 5 (by decide) (by decide)⟩
                | 6, _ =>
                  simp at ho
                  subst ho
                  have h0 : s 5 = .pointer (some ⟨B3, 5, none⟩) := hd ⟨5, .data⟩ (by simp) rfl
                  have hc := bX.cell 5 rfl
                  refine wp_val (v := uv) (X' := X) (by simp [execOp, go_sem, h0, hc]) ⟨_, by simp [Act.put, upd], hb, rfl, same 6 (by decide) (by decide)⟩
                | 7, _ =>
                  simp at ho
                  subst ho
                  refine wp_val (v := .slice a11 n cap11) (X' := X) (by simp [execOp, go_sem]) ⟨_, by simp [Act.put, upd], hb, rfl, same 7 (by decide) (by decide)⟩
                | 8, _ =>
                  simp at ho
                  subst ho
                  have h2 : s 7 = .slice a11 n cap11 := hd ⟨7, .data⟩ (by simp) rfl
                  have hX : Below X.heap.size X (X.alloc (.cells #[.slice a11 n cap11] 59)) := (Below.refl _ X).alloc (Nat.le_refl _) _
                  have hR : TwoR W1.heap.size (kapN κ2 wr.heap.size) 8 X (X.alloc (.cells #[.slice a11 n cap11] 59)) := .inr (.inr ⟨by decide, by decide, hX⟩)
                  refine wp_val (v := .slice (some ⟨X.heap.size, 0, none⟩) 1 1) (X' := X.alloc (.cells #[.slice a11 n cap11] 59)) (by simp [execOp, go_sem, h2]) ⟨_, by simp [Act.put, upd], hb.step hR, ⟨X.heap.size, rfl, hb.size, by simp, (BoxC.new X 59 #[.slice a11 n cap11]).cell 0 rfl⟩, hR⟩
                | 9, _ =>
                  simp at ho
                  subst ho
                  have h1 : s 6 = uv := hd ⟨6, .data⟩ (by simp) rfl
                  obtain ⟨b, e3, hb1, hb2, hb3⟩ : NewCell wr.heap.size (.slice a11 n cap11) (s 8) X := hd ⟨8, .data⟩ (by simp) rfl
                  exact wp_apX ap39 (.tmp 47) (.tmp 49) rfl (by show s 6 = _; exact h1) (hn.2 rfl) hb.lo ⟨b, 0, none⟩ 1 [.slice a11 n cap11] (by show s 8 = _; exact e3) rfl (news_cell hb3) (by simp [Value.oneCell']) (by unfold maxLen; omega) (by omega)
                    (fun v' w' r1 r2 r3 => ⟨v', by simp [Act.put, upd], hb.step (i := 9) (.inr (.inl ⟨rfl, r2, r3⟩)), Longer.of4 r1 hb.size, .inr (.inl ⟨rfl, r2, r3⟩)⟩)
                | 10, _ =>
                  simp at ho
                  subst ho
                  refine wp_val (v := .pointer (some ⟨B3, 4, none⟩)) (X' := X) (by simp [execOp, go_sem]) ⟨_, by simp [Act.put, upd], hb, rfl, same 10 (by decide) (by decide)⟩
              case tail =>
                intro s X hb hS
                obtain ⟨κ3, hd3, hG3', hV3⟩ := T.done hb (hS 4 (by decide)) (hS 9 (by decide))
                have e10 : s 10 = .pointer (some ⟨B3, 4, none⟩) := hS 10 (by decide)
                have bSX := hb.box bS4 (by decide) (by decide)
                have bPX := hb.box bP4 (by decide) (by decide)
                have bRX := hb.box bR4 (by decide) (by decide)
                have bNX := hb.box bN4 (by decide) (by decide)
                obtain ⟨a6, cap6, h4⟩ := SlOf.lenN hG3'.rd (n := gs.length + 1) (by simp)
                obtain ⟨a7, cap7, h9⟩ := SlOf.lenN hV3.rd (n := vs.length + 1) (by simp)
                rw [h4] at hG3'
                rw [h9] at hV3
                have x4 := bSX.cell 4 rfl
                have x5 := bSX.cell 5 rfl
                have f4 := bSX.frozen 4
                have f5 := bSX.frozen 5
                have hbX := hb.below
                simp only [List.drop_succ_cons, List.drop_zero, e10, h4, h9]
                generalize s 0 = t0
                generalize s 1 = t1
                generalize s 2 = t2
                generalize s 3 = t3
                generalize s 5 = t5
                generalize s 6 = t6
                generalize s 7 = t7
                generalize s 8 = t8
                clear hS hb T h4 h9 e10 s
                replace hgs := Lib.hid hgs
                replace hvs := Lib.hid hvs
                replace hgl := Lib.hid hgl
                replace hvl := Lib.hid hvl
                have b5 := bSX.set 4 (.slice a6 (gs.length + 1) cap6)
                have m4 := fun S => Mv.box (lo := W1.heap.size) (κ := κ3) S bSX 4 (.slice a6 (gs.length + 1) cap6)
                have b6 := b5.set 5 (.slice a7 (vs.length + 1) cap7)
                have m5 := fun S => Mv.box (lo := W1.heap.size) (κ := κ3) S b5 5 (.slice a7 (vs.length + 1) cap7)
                simp only [List.setIfInBounds_toArray, List.set_cons_zero, List.set_cons_succ] at b6
                have hD5 := ((m4 (fun _ => True)).trans (m5 (fun _ => True))) _ _ _ _ _ _ trivial (by decide) hd3
                have hG5 := hG3'.mv ((m4 _).trans (m5 _))
                have hV5 := hV3.mv ((m4 _).trans (m5 _))
                have bP6 := (bPX.other (p := ⟨B3, 4, none⟩) (by show w.heap.size ≠ B3; omega) (.slice a6 (gs.length + 1) cap6)).other (p := ⟨B3, 5, none⟩) (by show w.heap.size ≠ B3; omega) (.slice a7 (vs.length + 1) cap7)
                have bR6 := (bRX.other (p := ⟨B3, 4, none⟩) (by show w.heap.size + 1 ≠ B3; omega) (.slice a6 (gs.length + 1) cap6)).other (p := ⟨B3, 5, none⟩) (by show w.heap.size + 1 ≠ B3; omega) (.slice a7 (vs.length + 1) cap7)
                have bN6 := (bNX.other (p := ⟨B3, 4, none⟩) (by show B2 ≠ B3; omega) (.slice a6 (gs.length + 1) cap6)).other (p := ⟨B3, 5, none⟩) (by show B2 ≠ B3; omega) (.slice a7 (vs.length + 1) cap7)
                have hB6 := (hbX.setCell (p := ⟨B3, 4, none⟩) hw3 (.slice a6 (gs.length + 1) cap6)).setCell (p := ⟨B3, 5, none⟩) hw3 (.slice a7 (vs.length + 1) cap7)
                go_wp2_with fail
                go_roundw
                case rel => exact ⟨k + 1, κ3, _, _, by omega, by go_num, b6, bP6, bR6, bN6, hD5, by rw [hgs.out]; exact hG5, by rw [hvs.out]; exact hV5, hB6⟩
                case measure => simp [intOf]; omega
    · obtain rfl : L = k := by omega
      have x0 := bS.cell 0 rfl
      have x1 := bS.cell 1 rfl
      have x2 := bS.cell 2 rfl
      have x3 := bS.cell 3 rfl
      have x4 := bS.cell 4 rfl
      have x5 := bS.cell 5 rfl
      have x6 := bS.cell 6 rfl
      have r0 := bR.cell 0 rfl
      have r1 := bR.cell 1 rfl
      have r2 := bR.cell 2 rfl
      have r3 := bR.cell 3 rfl
      have r4 := bR.cell 4 rfl
      have r5 := bR.cell 5 rfl
      have r6 := bR.cell 6 rfl
      have e0 := bR.frozen 0
      have e1 := bR.frozen 1
      have e2 := bR.frozen 2
      have e3 := bR.frozen 3
      have e4 := bR.frozen 4
      have e5 := bR.frozen 5
      have e6 := bR.frozen 6
      obtain ⟨a6, cap6, hu6⟩ := SlOf.lenN hG.rd (n := L) List.length_replicate
      obtain ⟨a7, cap7, hu7⟩ := SlOf.lenN hV.rd (n := L) List.length_replicate
      subst hu6
      subst hu7
      have hls := hB1.out.size
      go_wp2
      have hS : StO W1.heap.size κ ⟨⟨zeros n, 0, 0⟩, 0, List.replicate L (List.replicate G ⟨zeros n, 0, 0⟩), List.replicate L v0, []⟩ (.slice b1 n q1) (.slice a6 L cap6) (.slice a7 L cap7) (.slice none 0 0) wr := ⟨hX, hG, hV, RegsO.nil _ _ _ _ _⟩
      exact bodyPost_ret (ret_cell Try.results27 rfl (bR.put7 _ _ _ _ _ _ _) Try.underlying42 size42) rfl ⟨_, _, _, _, κ, rfl, (hS.mv (Mv.low _ hls)).mv (Mv.put7 _ bR _ _ _ _ _ _ _), below_put7 _ _ _ _ _ _ _ (hB1.out.trans (hBX.mono hls)) (by omega)⟩
end Go.Proofs.Ytgnamahdchefnaa
