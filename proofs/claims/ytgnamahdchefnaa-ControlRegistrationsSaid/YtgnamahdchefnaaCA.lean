/- The contracts of Changes and of its closure. Conditions: consoles of plans. -/
import Derived.Test.YtgnamahdchefnaaPA
import Derived.Test.YtgnamahdchefnaaR4
import Derived.Test.YtgnamahdchefnaaW0
import Derived.BigQuiet
import Derived.Deep.QuietTactic
import Derived.IntWalk
namespace Go.Proofs.Ytgnamahdchefnaa
open Go.RowKit Go.Shelf

def evC (ls : List Ev) (k : Nat) : Value := if k % 3 = 0 then .int .i64 (get ls (k / 3)).k else if k % 3 = 1 then .int .i64 (get ls (k / 3)).d else .int .i64 (get ls (k / 3)).i
theorem evC0 (ls : List Ev) (i : Nat) : evC ls (i * 3) = .int .i64 (get ls i).k := by unfold evC; rw [if_pos (by omega), show i * 3 / 3 = i by omega]
theorem evC1 (ls : List Ev) (i : Nat) : evC ls (i * 3 + 1) = .int .i64 (get ls i).d := by unfold evC; rw [if_neg (by omega), if_pos (by omega), show (i * 3 + 1) / 3 = i by omega]
theorem evC2 (ls : List Ev) (i : Nat) : evC ls (i * 3 + 2) = .int .i64 (get ls i).i := by unfold evC; rw [if_neg (by omega), if_neg (by omega), show (i * 3 + 2) / 3 = i by omega]
/-- events that are owned -/
def EvO (lo : Nat) (κ : Nat → Role) (v : Value) (ls : List Ev) (w : World) : Prop := RowX lo κ (0, 0, 0) 28 3 v ls.length (evC ls) w
theorem EvO.rd {lo : Nat} {κ : Nat → Role} {v : Value} {ls : List Ev} {w : World} (h : EvO lo κ v ls w) : EvSl w v ls := by
  rcases Nat.eq_zero_or_pos ls.length with h0 | h0
  · obtain ⟨a, c, rfl⟩ := RowX.len h
    rw [h0]
    exact .inl ⟨⟨a, c, rfl⟩, List.eq_nil_of_length_eq_zero h0⟩
  · obtain ⟨g, off, cap, rfl, _, _, _, hc, _⟩ := RowX.at h h0
    refine .inr ⟨g, off, cap, rfl, fun i hi => ⟨?_, ?_, ?_⟩⟩
    · rw [← evC0 ls i]; exact hc _ (by omega)
    · rw [← evC1 ls i, Nat.add_assoc]; exact hc _ (by omega)
    · rw [← evC2 ls i, Nat.add_assoc]; exact hc _ (by omega)
theorem EvO.push {lo : Nat} {κ : Nat → Role} {v : Value} {ls : List Ev} {x : Ev} {w : World} (h : RowX lo κ (0, 0, 0) 28 3 v (ls.length + 1) (capp (evC ls) (ls.length * 3) [.int .i64 x.k, .int .i64 x.d, .int .i64 x.i]) w) : EvO lo κ v (ls ++ [x]) w := by
  unfold EvO
  rw [show (ls ++ [x]).length = ls.length + 1 by simp]
  refine h.congr (fun k hk => ?_)
  unfold capp evC
  by_cases h1 : k < ls.length * 3
  · have h2 : k / 3 < ls.length := by omega
    rw [if_pos h1, get_old h2]
  · have h2 : k / 3 = ls.length := by omega
    rw [if_neg h1, h2, get_new]
    rcases (by omega : k = ls.length * 3 ∨ k = ls.length * 3 + 1 ∨ k = ls.length * 3 + 2) with h3 | h3 | h3
    · rw [h3, if_pos (by omega)]; simp
    · rw [h3, if_neg (by omega), if_pos (by omega)]; simp
    · rw [h3, if_neg (by omega), if_neg (by omega)]; simp
theorem turn_yes {k d x : Int} {n : Nat} (h : bitT x n = true) : turnF k d x (n + 1) = turnF k d x n ++ [⟨k, d, (n : Int)⟩] := by
  unfold turnF
  rw [List.range_succ, List.filter_append, List.map_append, List.filter_cons, if_pos h]
  rfl
theorem turn_no {k d x : Int} {n : Nat} (h : bitT x n = false) : turnF k d x (n + 1) = turnF k d x n := by
  unfold turnF
  rw [List.range_succ, List.filter_append, List.map_append, List.filter_cons, if_neg (by rw [h]; decide)]
  simp
def TurnPost (lo B : Nat) (ls : List Ev) (w : World) (e : Ending) (w' : World) : Prop := ∃ κ v, e = .returned (.tuple #[]) ∧ BoxC w' B 26 #[v] ∧ EvO lo κ v ls w' ∧ Below lo w w'
set_option linter.unusedVariables false in
set_option maxRecDepth 100000 in
set_option maxHeartbeats 4000000 in
theorem turn_any (k d x : Int) (v : Value) (ls : List Ev) (lo B : Nat) (κ : Nat → Role) (w : World) (hx : 0 ≤ x ∧ x ≤ 18446744073709551615) (hB : BoxC w B 26 #[v]) (hO : EvO lo κ v ls w) (hlo : lo ≤ w.heap.size) (hle : lo ≤ B) (hn : ls.length ≤ 1000) :
    Calls Try.prog 30 #[.int .i64 k, .int .i64 d, .int .u64 x, .pointer (some ⟨B, 0, none⟩)] w (TurnPost lo B (ls ++ turnF k d x 64) w) := by
  obtain ⟨x0, x1⟩ := hx
  go_enter Try.func30, Try.ntmps30
  go_wp2_with fail
  go_loopw [8] (fun i X => ∃ (j : Nat) (κ : Nat → Role) (v : Value), j ≤ 64 ∧ i = .int .i64 j ∧ BoxC X B 26 #[v] ∧ EvO lo κ v (ls ++ turnF k d x j) X ∧ Below lo w X) (fun i _ => 64 - (intOf i).toNat)
  case atStart => exact ⟨0, κ, v, by omega, rfl, hB, by simpa [turnF] using hO, Below.refl _ _⟩
  case round =>
    clear hB hO
    obtain ⟨j, κ, v, hj, rfl, hB, hO, hBX⟩ := hrel
    by_cases hlt : j < 64
    · have hji : (j : Int) < 64 := by omega
      have hjl : (turnF k d x j).length ≤ j := turn_len k d x j
      obtain ⟨bb, hbb⟩ : ∃ bb, bitT x j = bb := ⟨_, rfl⟩
      have hbit : (bits BinOp.and .u64 (x / 2 ^ j) 1 == 1) = bb := by rw [← hbb]; unfold bitT; rfl
      cases bb with
      | false =>
        have ht := turn_no (k := k) (d := d) hbb
        replace ht := Lib.hid ht
        replace hbb := Lib.hid hbb
        go_wp2_with fail
        go_roundw
        case rel => exact ⟨j + 1, κ, v, by omega, by go_num, hB, by rw [ht.out]; exact hO, hBX⟩
        case measure => simp [intOf]; omega
      | true =>
        have ht := turn_yes (k := k) (d := d) hbb
        replace ht := Lib.hid ht
        replace hbb := Lib.hid hbb
        have c0 := hB.cell 0 rfl
        have hlB := hB.lt
        have hLX := hBX.size
        have hlen : (ls ++ turnF k d x j).length ≤ 1064 := by rw [List.length_append]; omega
        have hes : ls ++ turnF k d x (j + 1) = (ls ++ turnF k d x j) ++ [⟨k, d, (j : Int)⟩] := by rw [ht.out, List.append_assoc]
        generalize ls ++ turnF k d x j = es at hO hlen hes
        replace hes := Lib.hid hes
        have hrow : RowX lo κ (0, 0, 0) 28 3 v es.length (evC es) (wr.alloc (.cells #[.int .i64 k, .int .i64 d, .int .i64 (j : Int)] 28)) := RowX.alloc hO _
        go_wp2_with (at_builtin; refine wpList_apX ap26 rfl _ _ rfl rfl hrow (by simp; omega) ⟨wr.heap.size, 0, none⟩ 1 [.int .i64 k, .int .i64 d, .int .i64 (j : Int)] rfl rfl (laid_news wr _ 28) (by simp [Value.oneCell']) (by unfold maxLen; omega) (by omega) ?_; intro v' w4 hrow4 hfr4 hoth4; obtain ⟨a6, cap6, rfl⟩ := hrow4.len; have b44 := (hB.alloc (.cells #[.int .i64 k, .int .i64 d, .int .i64 (j : Int)] 28)).oth hoth4 (by decide); have x7 := b44.cell 0 rfl; have e7 := b44.frozen 0; have hbl5 := b44.lt)
        have hO4 := EvO.push (x := ⟨k, d, (j : Int)⟩) hrow4
        have b5 := b44.set 0 (.slice a6 (es.length + 1) cap6)
        simp only [List.setIfInBounds_toArray, List.set_cons_zero] at b5
        have hO5 : EvO lo (kfrom κ (wr.alloc (.cells #[.int .i64 k, .int .i64 d, .int .i64 (j : Int)] 28)).heap.size (0, 0, 0)) (.slice a6 (es.length + 1) cap6) (es ++ [⟨k, d, (j : Int)⟩]) (w4.setCell ⟨B, 0, none⟩ (.slice a6 (es.length + 1) cap6)) := RowX.box hO4 b44 (by decide) 0 _
        have hb3 := (Below.refl wr.heap.size wr).alloc (Nat.le_refl _) (.cells #[.int .i64 k, .int .i64 d, .int .i64 (j : Int)] 28)
        have h1 := hBX.trans (hb3.mono (by omega))
        have h2 := (h1.trans (hfr4.below (by simp; omega))).setCell (p := ⟨B, 0, none⟩) hle (.slice a6 (es.length + 1) cap6)
        go_roundw
        case rel => exact ⟨j + 1, _, _, by omega, by go_num, b5, by rw [hes.out]; exact hO5, h2⟩
        case measure => simp [intOf]; omega
    · obtain rfl : j = 64 := by omega
      go_wp2
      exact bodyPost_ret (results_none rfl _ _ _) rfl ⟨κ, v, rfl, hB, hO, hBX⟩
end Go.Proofs.Ytgnamahdchefnaa
namespace Go.Proofs.Ytgnamahdchefnaa
open Go.RowKit Go.Shelf

theorem stops_succ (a b : List Int) (k : Nat) : stopsF a b (fun _ => 64) (k + 1) = stopsF a b (fun _ => 64) k ++ turnF 1 k (xorI (nth a k) (nth b k)) 64 := by
  unfold stopsF
  rw [List.range_succ, List.flatMap_append]
  simp
def ChPost (C : Con) (a b : Rg) (w : World) (e : Ending) (w' : World) : Prop := Below w.heap.size w w' ∧
  ((rightF C a ≠ 0 ∧ e = .returned (.tuple #[.slice none 0 0, .int .i64 (rightF C a)])) ∨
   (rightF C a = 0 ∧ rightF C b ≠ 0 ∧ e = .returned (.tuple #[.slice none 0 0, .int .i64 (rightF C b)])) ∨
   (rightF C a = 0 ∧ rightF C b = 0 ∧ ∃ v, e = .returned (.tuple #[v, .int .i64 0]) ∧ EvSl w' v (changeF a b)))
theorem xor_u64 {a b : Int} {n : Nat} (hn : n ≤ 4) (ha : 0 ≤ a ∧ a < 2 ^ n) (hb : 0 ≤ b ∧ b < 2 ^ n) : 0 ≤ xorI a b ∧ xorI a b ≤ 18446744073709551615 := by
  have h1 := xor_lt hn ha hb
  have h2 := (pow_small hn).1
  have h3 := pow_cast n
  omega
set_option linter.unusedVariables false in
set_option maxRecDepth 100000 in
set_option maxHeartbeats 8000000 in
theorem Changes_any (x y u v : Value) (C : Con) (a b : Rg) (w : World) (hC : C.Ok) (hr : ConR w x y C) (hu : NumSl .u64 w u a.s) (hv : NumSl .u64 w v b.s) : Calls Try.prog 11 #[conV x y C.co C.ge C.lv, regV u a.c a.o, regV v b.c b.o] w (ChPost C a b w) := by
  obtain ⟨a1, c1, rfl⟩ := hr.s.len
  obtain ⟨a2, c2, rfl⟩ := hr.d.lenV hC.dl
  obtain ⟨a3, c3, rfl⟩ := hu.len
  obtain ⟨a4, c4, rfl⟩ := hv.len
  have hB := ((((Below.refl w.heap.size w).alloc (Nat.le_refl _) (.cells #[.slice a1 C.s.length c1, .int .i64 C.co, .int .i64 C.ge, .slice a2 C.s.length c2, .int .i64 C.lv] 32)).alloc (by simp) (.cells #[.slice a3 a.s.length c3, .int .u64 a.c, .int .u64 a.o] 37)).alloc (by simp; omega) (.cells #[.slice a4 b.s.length c4, .int .u64 b.c, .int .u64 b.o] 37)).alloc (by simp; omega) (.cells #[.slice a3 a.s.length c3, .int .u64 a.c, .int .u64 a.o, .slice a4 b.s.length c4, .int .u64 b.c, .int .u64 b.o] 37)
  have bC := (((BoxC.new w 32 #[.slice a1 C.s.length c1, .int .i64 C.co, .int .i64 C.ge, .slice a2 C.s.length c2, .int .i64 C.lv]).alloc (.cells #[.slice a3 a.s.length c3, .int .u64 a.c, .int .u64 a.o] 37)).alloc (.cells #[.slice a4 b.s.length c4, .int .u64 b.c, .int .u64 b.o] 37)).alloc (.cells #[.slice a3 a.s.length c3, .int .u64 a.c, .int .u64 a.o, .slice a4 b.s.length c4, .int .u64 b.c, .int .u64 b.o] 37)
  have bA := ((BoxC.new (w.alloc (.cells #[.slice a1 C.s.length c1, .int .i64 C.co, .int .i64 C.ge, .slice a2 C.s.length c2, .int .i64 C.lv] 32)) 37 #[.slice a3 a.s.length c3, .int .u64 a.c, .int .u64 a.o]).alloc (.cells #[.slice a4 b.s.length c4, .int .u64 b.c, .int .u64 b.o] 37)).alloc (.cells #[.slice a3 a.s.length c3, .int .u64 a.c, .int .u64 a.o, .slice a4 b.s.length c4, .int .u64 b.c, .int .u64 b.o] 37)
  have bB := (BoxC.new ((w.alloc (.cells #[.slice a1 C.s.length c1, .int .i64 C.co, .int .i64 C.ge, .slice a2 C.s.length c2, .int .i64 C.lv] 32)).alloc (.cells #[.slice a3 a.s.length c3, .int .u64 a.c, .int .u64 a.o] 37)) 37 #[.slice a4 b.s.length c4, .int .u64 b.c, .int .u64 b.o]).alloc (.cells #[.slice a3 a.s.length c3, .int .u64 a.c, .int .u64 a.o, .slice a4 b.s.length c4, .int .u64 b.c, .int .u64 b.o] 37)
  have bL := BoxC.new (((w.alloc (.cells #[.slice a1 C.s.length c1, .int .i64 C.co, .int .i64 C.ge, .slice a2 C.s.length c2, .int .i64 C.lv] 32)).alloc (.cells #[.slice a3 a.s.length c3, .int .u64 a.c, .int .u64 a.o] 37)).alloc (.cells #[.slice a4 b.s.length c4, .int .u64 b.c, .int .u64 b.o] 37)) 37 #[.slice a3 a.s.length c3, .int .u64 a.c, .int .u64 a.o, .slice a4 b.s.length c4, .int .u64 b.c, .int .u64 b.o]
  simp only [World.size_alloc] at bA bB bL
  obtain ⟨ra, hra⟩ : ∃ ra, rightF C a = ra := ⟨_, rfl⟩
  obtain ⟨rb, hrb⟩ : ∃ rb, rightF C b = rb := ⟨_, rfl⟩
  have hRa := fun (X : World) (h : Below w.heap.size w X) => Right_any (.slice a1 C.s.length c1) (.slice a2 C.s.length c2) (.slice a3 a.s.length c3) C a X hC (hr.mono h) (hu.mono h)
  have hRb := fun (X : World) (h : Below w.heap.size w X) => Right_any (.slice a1 C.s.length c1) (.slice a2 C.s.length c2) (.slice a4 b.s.length c4) C b X hC (hr.mono h) (hv.mono h)
  rw [hra] at hRa
  rw [hrb] at hRb
  replace hRa := Lib.hid hRa
  replace hRb := Lib.hid hRb
  have hu0 := Lib.hid hu
  have hv0 := Lib.hid hv
  have hC0 := Lib.hid hC
  replace hra := Lib.hid hra
  replace hrb := Lib.hid hrb
  clear hr hu hv hC
  go_enter Try.func11, Try.ntmps11
  go_wp2_with fail
  generalize (((w.alloc (.cells #[.slice a1 C.s.length c1, .int .i64 C.co, .int .i64 C.ge, .slice a2 C.s.length c2, .int .i64 C.lv] 32)).alloc (.cells #[.slice a3 a.s.length c3, .int .u64 a.c, .int .u64 a.o] 37)).alloc (.cells #[.slice a4 b.s.length c4, .int .u64 b.c, .int .u64 b.o] 37)).alloc (.cells #[.slice a3 a.s.length c3, .int .u64 a.c, .int .u64 a.o, .slice a4 b.s.length c4, .int .u64 b.c, .int .u64 b.o] 37) = W at hB bC bA bB bL ⊢
  go_loopw [19] (fun i X => ∃ k : Nat, k ≤ 2 ∧ i = .int .i64 k ∧ (1 ≤ k → ra = 0) ∧ (2 ≤ k → rb = 0) ∧ Below W.heap.size W X) (fun i _ => 2 - (intOf i).toNat)
  case atStart => exact ⟨0, by omega, rfl, fun h => by omega, fun h => by omega, Below.refl _ _⟩
  case round =>
    obtain ⟨k, hk, rfl, h1, h2, hBX⟩ := hrel
    have bCX := bC.grown hBX
    have bLX := bL.grown hBX
    have hBw := hB.trans (hBX.mono hB.size)
    by_cases hlt : k < 2
    · rcases (by omega : k = 0 ∨ k = 1) with rfl | rfl
      · have l0 := bLX.cell 0 rfl
        have l1 := bLX.cell 1 rfl
        have l2 := bLX.cell 2 rfl
        have hb1 := (Below.refl wr.heap.size wr).alloc (Nat.le_refl _) (.cells #[.slice a3 a.s.length c3, .int .u64 a.c, .int .u64 a.o] 37)
        have hlC := bCX.lt
        have hR := Lib.hid (hRa.out _ (hBw.trans (hb1.mono hBw.size)))
        have p0 := bCX.cell 0 rfl
        have p1 := bCX.cell 1 rfl
        have p2 := bCX.cell 2 rfl
        have p3 := bCX.cell 3 rfl
        have p4 := bCX.cell 4 rfl
        go_wp2_with fail
        refine hR.out.mono ?_
        rintro e w1 ⟨rfl, hb2⟩
        have hB3 := hb1.trans (hb2.mono hb1.size)
        by_cases h0 : ra = 0
        · have h0b : (ra != 0) = false := by simpa using h0
          replace h0 := Lib.hid h0
          go_wp2_with fail
          go_roundw
          case rel => exact ⟨1, by omega, by go_num, fun _ => h0.out, fun h => by omega, hBX.trans (hB3.mono hBX.size)⟩
          case measure => simp [intOf]
        · have h0b : (ra != 0) = true := by simpa using h0
          replace h0 := Lib.hid h0
          go_wp2
          go_ret2
          exact ⟨hBw.trans (hB3.mono hBw.size), .inl ⟨by rw [hra.out]; exact h0.out, by rw [hra.out]; rfl⟩⟩
      · have l0 := bLX.cell 3 rfl
        have l1 := bLX.cell 4 rfl
        have l2 := bLX.cell 5 rfl
        have hb1 := (Below.refl wr.heap.size wr).alloc (Nat.le_refl _) (.cells #[.slice a4 b.s.length c4, .int .u64 b.c, .int .u64 b.o] 37)
        have hlC := bCX.lt
        have hR := Lib.hid (hRb.out _ (hBw.trans (hb1.mono hBw.size)))
        have p0 := bCX.cell 0 rfl
        have p1 := bCX.cell 1 rfl
        have p2 := bCX.cell 2 rfl
        have p3 := bCX.cell 3 rfl
        have p4 := bCX.cell 4 rfl
        go_wp2_with fail
        refine hR.out.mono ?_
        rintro e w1 ⟨rfl, hb2⟩
        have hB3 := hb1.trans (hb2.mono hb1.size)
        by_cases h0 : rb = 0
        · have h0b : (rb != 0) = false := by simpa using h0
          replace h0 := Lib.hid h0
          go_wp2_with fail
          go_roundw
          case rel => exact ⟨2, by omega, by go_num, fun _ => h1 (by omega), fun _ => h0.out, hBX.trans (hB3.mono hBX.size)⟩
          case measure => simp [intOf]
        · have h0b : (rb != 0) = true := by simpa using h0
          replace h0 := Lib.hid h0
          go_wp2
          go_ret2
          exact ⟨hBw.trans (hB3.mono hBw.size), .inr (.inl ⟨by rw [hra.out]; exact h1 (by omega), by rw [hrb.out]; exact h0.out, by rw [hrb.out]; rfl⟩)⟩
    · have hk2 : 2 ≤ (k : Int) := by omega
      have hk3 : ¬ (k : Int) < 2 := by omega
      have ha0 := h1 (by omega)
      have hb0 := h2 (by omega)
      subst ha0
      subst hb0
      have hka := RegOk.of hra.out
      have hkb := RegOk.of hrb.out
      have hn3 := hC0.out.n
      have hna : a.s.length = C.s.length := hka.n
      have hnb : b.s.length = a.s.length := hkb.n.trans hka.n.symm
      have hxs : ∀ k, k < a.s.length → 0 ≤ xorI (nth a.s k) (nth b.s k) ∧ xorI (nth a.s k) (nth b.s k) ≤ 18446744073709551615 := fun k hk => by
        have h4 := hC0.out.s k
        exact xor_u64 (n := (nth C.s k).toNat) (by omega) (hka.s k (by omega)) (hkb.s k (by omega))
      have hxc : 0 ≤ xorI a.c b.c ∧ xorI a.c b.c ≤ 18446744073709551615 := xor_u64 (n := C.co.toNat) (by have := hC0.out.co; omega) hka.c hkb.c
      have hxo : 0 ≤ xorI a.o b.o ∧ xorI a.o b.o ≤ 18446744073709551615 := xor_u64 (n := C.s.length) (by omega) hka.o hkb.o
      have hlen : a.s.length ≤ 3 := by omega
      have hac := hka.c
      replace hxs := Lib.hid hxs
      replace hxc := Lib.hid hxc
      replace hxo := Lib.hid hxo
      replace hna := Lib.hid hna
      replace hnb := Lib.hid hnb
      have bAX := bA.grown hBX
      have bBX := bB.grown hBX
      have hb3 := (Below.refl wr.heap.size wr).alloc (Nat.le_refl _) (.cells #[.slice none 0 0] 26)
      have bO := BoxC.new wr 26 #[.slice none 0 0]
      have p0 := bAX.cell 0 rfl
      have hlA := bAX.lt
      have hra0 : rightF C a = 0 := hra.out
      have hrb0 : rightF C b = 0 := hrb.out
      replace hra0 := Lib.hid hra0
      replace hrb0 := Lib.hid hrb0
      clear h1 h2 hka hkb hac bC bL bCX bLX bA bB hRa hRb hra hrb hB hBX hk hlt
      rename World => Y
      go_wp2_with fail
      generalize Y.alloc (.cells #[.slice none 0 0] 26) = Z at hb3 bO ⊢
      obtain ⟨Bq, hBq⟩ : ∃ q, Y.heap.size = q := ⟨_, rfl⟩
      have hsY := hBw.size
      rw [hBq] at hb3 bO hsY ⊢
      replace hBq := Lib.hid hBq
      clear p0
      go_loopw [34] (fun i X => ∃ (k : Nat) (κ : Nat → Role) (ve : Value), k ≤ a.s.length ∧ i = .int .i64 k ∧ BoxC X Bq 26 #[ve] ∧ EvO Bq κ ve (stopsF a.s b.s (fun _ => 64) k) X ∧ Below Bq Y X) (fun i _ => a.s.length - (intOf i).toNat)
      case atStart => exact ⟨0, fun _ => (0, 0, 0), _, Nat.zero_le _, rfl, bO, RowX.nil _ _ _ _ _ _ _, hb3⟩
      case round =>
        clear bO hb3
        obtain ⟨k, κ, ve, hk, rfl, bO, hO, hBZ⟩ := hrel
        have hsZ := hBZ.size
        have hsY2 := hBq.out
        have hBZ' := hBZ
        rw [← hsY2] at hBZ'
        have hBw2 := hBw.trans (hBZ'.mono hBw.size)
        have bAZ := bAX.grown hBZ'
        have bBZ := bBX.grown hBZ'
        have hlBq := bO.lt
        by_cases hlt : k < a.s.length
        · obtain ⟨g1, o1, cp1, he1, hc1⟩ := (hu0.out.mono hBw2).at hlt
          cases he1
          obtain ⟨g2, o2, cp2, he2, hc2⟩ := (hv0.out.mono hBw2).atN hnb.out hlt
          obtain ⟨e1, e2, e3⟩ := Value.slice.inj he2
          subst e1 e3
          clear he2 e2
          have x0 := hc1 k hlt
          have x1 := hc2 k hlt
          have p0 := bBZ.cell 0 rfl
          have hki : (k : Int) < (a.s.length : Int) := by omega
          have hkb : (k : Int) < (b.s.length : Int) := by have := hnb.out; omega
          have hxk := hxs.out k hlt
          have hst := stops_succ a.s b.s k
          have hsl := stops_len a.s b.s k
          have hl3 : (stopsF a.s b.s (fun _ => 64) k).length ≤ 1000 := by omega
          generalize stopsF a.s b.s (fun _ => 64) k = es at hst hl3 hO
          have hT := turn_any 1 k (xorI (nth a.s k) (nth b.s k)) ve es Bq Bq κ wr hxk bO hO (by omega) (by omega) hl3
          generalize nth a.s k = xa at x0 hT hst
          generalize nth b.s k = xb at x1 hT hst
          unfold xorI at hT hst
          replace hT := Lib.hid hT
          replace hst := Lib.hid hst
          clear hc1 hc2 hxk hsl hBZ' hBw2 bAZ bBZ hO
          go_wp2_with fail
          refine hT.out.mono ?_
          rintro e w1 ⟨κ', v', rfl, bO1, hO1, hb1⟩
          go_wp2_with fail
          go_roundw
          case rel => exact ⟨k + 1, κ', v', by omega, by go_num, bO1, by rw [hst.out]; exact hO1, hBZ.trans hb1⟩
          case measure => simp [intOf]; omega
        · obtain rfl : k = a.s.length := by omega
          have p1 := bAZ.cell 1 rfl
          have p2 := bBZ.cell 1 rfl
          have hsl := stops_len a.s b.s a.s.length
          obtain ⟨es, hes⟩ : ∃ es, stopsF a.s b.s (fun _ => 64) a.s.length = es := ⟨_, rfl⟩
          rw [hes] at hsl hO
          have hl3 : es.length ≤ 192 := by omega
          have hT := turn_any 2 0 (xorI a.c b.c) ve es Bq Bq κ wr hxc.out bO hO (by omega) (by omega) (by omega)
          have htl := turn_len 2 0 (xorI a.c b.c) 64
          have hl4 : (es ++ turnF 2 0 (xorI a.c b.c) 64).length ≤ 1000 := by rw [List.length_append]; omega
          obtain ⟨es2, hes2⟩ : ∃ es2, es ++ turnF 2 0 (xorI a.c b.c) 64 = es2 := ⟨_, rfl⟩
          rw [hes2] at hT hl4
          have hT2 := fun (v' : Value) (κ' : Nat → Role) (X : World) (b1 : BoxC X Bq 26 #[v']) (o1 : EvO Bq κ' v' es2 X) (h : Bq ≤ X.heap.size) => turn_any 3 0 (xorI a.o b.o) v' es2 Bq Bq κ' X hxo.out b1 o1 h (by omega) hl4
          have hfin : es2 ++ turnF 3 0 (xorI a.o b.o) 64 = changeF a b := by rw [← hes2, ← hes]; rfl
          rw [hfin] at hT2
          unfold xorI at hT hT2
          replace hT := Lib.hid hT
          replace hT2 := Lib.hid hT2
          replace hes := Lib.hid hes
          replace hes2 := Lib.hid hes2
          clear hO hsl hl3 htl hl4 hfin
          go_wp2_with fail
          refine hT.out.mono ?_
          rintro e w1 ⟨κ1, v1, rfl, bO1, hO1, hb1⟩
          have hsb1 := hb1.size
          have hBZ1 := hBZ.trans hb1
          rw [← hsY2] at hBZ1
          have bA1 := bAX.grown hBZ1
          have bB1 := bBX.grown hBZ1
          have q1 := bA1.cell 2 rfl
          have q2 := bB1.cell 2 rfl
          have hT3 := Lib.hid (hT2.out v1 κ1 w1 bO1 hO1 (by omega))
          clear p1 p2
          go_wp2_with fail
          refine hT3.out.mono ?_
          rintro e w2 ⟨κ2, v2, rfl, bO2, hO2, hb2⟩
          have y0 := bO2.cell 0 rfl
          have hB2 := hBZ.trans (hb1.trans hb2)
          rw [← hsY2] at hB2
          go_wp2
          go_ret2
          exact ⟨hBw.trans (hB2.mono hBw.size), .inr (.inr ⟨hra0.out, hrb0.out, v2, rfl, EvO.rd hO2⟩)⟩
end Go.Proofs.Ytgnamahdchefnaa
namespace Go.Proofs.Ytgnamahdchefnaa
open Go.RowKit Go.Shelf

set_option maxHeartbeats 4000000 in
theorem evEqual_any (v u : Value) (xs : List Ev) (w : World) (hv : EvSl w v xs) (hu : EvSl w u xs) (hn : xs.length ≤ 1000) : Calls Try.prog 23 #[v, u] w (BoolBelow true w) := by
  have hv0 := Lib.hid hv
  have hu0 := Lib.hid hu
  obtain ⟨a, cap, rfl⟩ := hv.len
  obtain ⟨a2, cap2, rfl⟩ := hu.len
  clear hv hu
  go_enter Try.func23, Try.ntmps23
  go_wp2
  go_loopw [13] (fun i W => ∃ k : Nat, k ≤ xs.length ∧ i = .int .i64 k ∧ Below w.heap.size w W) (fun i _ => xs.length - (intOf i).toNat)
  case atStart => exact ⟨0, Nat.zero_le _, rfl, Below.refl _ _⟩
  case round =>
    obtain ⟨k, hk, rfl, hB⟩ := hrel
    by_cases hlt : k < xs.length
    · obtain ⟨b, off, cap', he, hc⟩ := (hv0.out.mono hB).at hlt
      cases he
      obtain ⟨b2, off2, cap2', he2, hc2⟩ := (hu0.out.mono hB).at hlt
      cases he2
      obtain ⟨x0, x1, x2⟩ := hc k hlt
      obtain ⟨y0, y1, y2⟩ := hc2 k hlt
      clear hc hc2
      generalize get xs k = ev at x0 x1 x2 y0 y1 y2
      have hki : (k : Int) < (xs.length : Int) := by omega
      go_wp2_with fail
      go_quiet (fail)
      go_wp2_with fail
      go_roundw
      case rel => exact ⟨k + 1, by omega, by go_num, below_drewN hB _⟩
      case measure => simp [intOf]; omega
    · obtain rfl : k = xs.length := by omega
      go_wp2_with fail
      go_ret
      exact ⟨rfl, hB⟩
end Go.Proofs.Ytgnamahdchefnaa
