/- The walk of ControlRegistrations. Conditions: plans and registrations that come in. -/
import Derived.Test.YtgnamahdchefnaaA6
import Derived.Test.YtgnamahdchefnaaAK
import Derived.Test.YtgnamahdchefnaaCA
import Derived.Test.YtgnamahdchefnaaW1
import Derived.BigQuiet
import Derived.Deep.QuietTactic
import Derived.Deep.RegionHeld3
namespace Go.Proofs.Ytgnamahdchefnaa
open Go.RowKit Go.Shelf

theorem stops_next (a b : List Int) (ns : Nat → Nat) (k : Nat) : stopsF a b ns (k + 1) = stopsF a b ns k ++ turnF 1 k (xorI (nth a k) (nth b k)) (ns k) := by
  unfold stopsF
  rw [List.range_succ, List.flatMap_append]
  simp
theorem stops_len4 (a b : List Int) (ns : Nat → Nat) (h : ∀ i, ns i ≤ 4) : ∀ n, (stopsF a b ns n).length ≤ 4 * n
  | 0 => by simp [stopsF]
  | n + 1 => by
    have ih := stops_len4 a b ns h n
    have h1 := turn_len 1 n (xorI (nth a n) (nth b n)) (ns n)
    have h2 := h n
    rw [stops_next, List.length_append]
    omega
set_option linter.unusedVariables false in
set_option maxRecDepth 100000 in
set_option maxHeartbeats 8000000 in
theorem law6_any (v u1 u2 : Value) (p : Pl) (ra rb : Rg) (w : World) (hp : p.Ok) (hv : NumSl .u8 w v p.ss) (hcap : ∃ a cap, v = .slice a p.ss.length cap ∧ p.ss.length ≤ cap) (hua : NumSl .u64 w u1 ra.s) (hub : NumSl .u64 w u2 rb.s)
    (la : ∀ i, i < ra.s.length → 0 ≤ nth ra.s i ∧ nth ra.s i ≤ 18446744073709551615) (lb : ∀ i, i < rb.s.length → 0 ≤ nth rb.s i ∧ nth rb.s i ≤ 18446744073709551615) (ca : 0 ≤ ra.c ∧ ra.c ≤ 18446744073709551615) (cb : 0 ≤ rb.c ∧ rb.c ≤ 18446744073709551615) (oa : 0 ≤ ra.o ∧ ra.o ≤ 18446744073709551615) (ob : 0 ≤ rb.o ∧ rb.o ≤ 18446744073709551615) :
    Calls Try.prog 6 #[planV v p, regV u1 ra.c ra.o, regV u2 rb.c rb.o] w (BoolBelow true w) := by
  have hkn := Lib.hid known_any
  obtain ⟨a, cap, rfl, hcp⟩ := hcap
  have hC := p.con_ok
  have hmk := fun (X : World) (h : Below w.heap.size w X) => Make_any (.slice a p.ss.length cap) p X hp (hv.mono h) ⟨a, cap, rfl, hcp⟩
  generalize p.con = C at hmk hC
  replace hmk := Lib.hid hmk
  have hua0 := Lib.hid hua
  have hub0 := Lib.hid hub
  obtain ⟨aa, ka, rfl⟩ := hua.len
  obtain ⟨ab, kb, rfl⟩ := hub.len
  have hB0 := (((Below.refl w.heap.size w).alloc (Nat.le_refl _) (.cells #[.slice a p.ss.length cap, .int .u8 p.co, .int .u8 p.ge, .int .u8 p.lv, .int .u8 p.d0, .int .u8 p.d1, .int .u8 p.d2] 25)).alloc (by simp) (.cells #[.slice aa ra.s.length ka, .int .u64 ra.c, .int .u64 ra.o] 37)).alloc (by simp; omega) (.cells #[.slice ab rb.s.length kb, .int .u64 rb.c, .int .u64 rb.o] 37)
  have b0 := ((BoxC.new w 25 #[.slice a p.ss.length cap, .int .u8 p.co, .int .u8 p.ge, .int .u8 p.lv, .int .u8 p.d0, .int .u8 p.d1, .int .u8 p.d2]).alloc (.cells #[.slice aa ra.s.length ka, .int .u64 ra.c, .int .u64 ra.o] 37)).alloc (.cells #[.slice ab rb.s.length kb, .int .u64 rb.c, .int .u64 rb.o] 37)
  have bA := (BoxC.new (w.alloc (.cells #[.slice a p.ss.length cap, .int .u8 p.co, .int .u8 p.ge, .int .u8 p.lv, .int .u8 p.d0, .int .u8 p.d1, .int .u8 p.d2] 25)) 37 #[.slice aa ra.s.length ka, .int .u64 ra.c, .int .u64 ra.o]).alloc (.cells #[.slice ab rb.s.length kb, .int .u64 rb.c, .int .u64 rb.o] 37)
  have bB := BoxC.new ((w.alloc (.cells #[.slice a p.ss.length cap, .int .u8 p.co, .int .u8 p.ge, .int .u8 p.lv, .int .u8 p.d0, .int .u8 p.d1, .int .u8 p.d2] 25)).alloc (.cells #[.slice aa ra.s.length ka, .int .u64 ra.c, .int .u64 ra.o] 37)) 37 #[.slice ab rb.s.length kb, .int .u64 rb.c, .int .u64 rb.o]
  simp only [World.size_alloc] at bA bB
  clear hp hv hua hub hcp la lb ca cb oa ob
  by_cases hla5 : 5 < ra.s.length
  · have hda : decide ((5 : Int) < (ra.s.length : Int)) = true := decide_eq_true (by omega)
    go_enter Try.func6, Try.ntmps6
    go_wp2_with fail
    refine (hkn.out _).mono ?_
    rintro e w1 ⟨rfl, hb1⟩
    have hB1 := hB0.trans (hb1.mono hB0.size)
    have bA1 := bA.grown hb1
    have bB1 := bB.grown hb1
    have x0 := bA1.cell 0 rfl
    have y0 := bB1.cell 0 rfl
    go_wp2_with fail
    refine (hkn.out _).mono ?_
    rintro e w2 ⟨rfl, hb2⟩
    go_wp2
    go_ret
    exact ⟨rfl, hB1.trans (hb2.mono hB1.size)⟩
  have hda : decide ((5 : Int) < (ra.s.length : Int)) = false := decide_eq_false (by omega)
  by_cases hlb5 : 5 < rb.s.length
  · have hdb : decide ((5 : Int) < (rb.s.length : Int)) = true := decide_eq_true (by omega)
    go_enter Try.func6, Try.ntmps6
    go_wp2_with fail
    refine (hkn.out _).mono ?_
    rintro e w1 ⟨rfl, hb1⟩
    have hB1 := hB0.trans (hb1.mono hB0.size)
    have bA1 := bA.grown hb1
    have bB1 := bB.grown hb1
    have x0 := bA1.cell 0 rfl
    have y0 := bB1.cell 0 rfl
    go_wp2_with fail
    refine (hkn.out _).mono ?_
    rintro e w2 ⟨rfl, hb2⟩
    go_wp2
    go_ret
    exact ⟨rfl, hB1.trans (hb2.mono hB1.size)⟩
  have hdb : decide ((5 : Int) < (rb.s.length : Int)) = false := decide_eq_false (by omega)
  have hRi := Lib.hid (fun (x y : Value) (X : World) (h1 : ConR X x y C) (h2 : Below w.heap.size w X) => Right_any x y (.slice aa ra.s.length ka) C ra X hC h1 (hua0.out.mono h2))
  have hLa := Lib.hid (fun (x y : Value) (X : World) (h1 : ConR X x y C) (h2 : Below w.heap.size w X) => lawRight_any x y (.slice aa ra.s.length ka) C ra X hC h1 (hua0.out.mono h2))
  have hLb := Lib.hid (fun (x y : Value) (X : World) (h1 : ConR X x y C) (h2 : Below w.heap.size w X) => lawRight_any x y (.slice ab rb.s.length kb) C rb X hC h1 (hub0.out.mono h2))
  have hEq := Lib.hid (fun (X : World) (h2 : Below w.heap.size w X) => Equal_any (.slice aa ra.s.length ka) (.slice ab rb.s.length kb) ra rb X (hua0.out.mono h2) (hub0.out.mono h2) (by omega))
  have hLe := Lib.hid (fun (X : World) (h2 : Below w.heap.size w X) => lawEqual_any (.slice aa ra.s.length ka) (.slice ab rb.s.length kb) ra rb X (hua0.out.mono h2) (hub0.out.mono h2) (by omega))
  have hCh := Lib.hid (fun (x y : Value) (X : World) (h1 : ConR X x y C) (h2 : Below w.heap.size w X) => Changes_any x y (.slice aa ra.s.length ka) (.slice ab rb.s.length kb) C ra rb X hC h1 (hua0.out.mono h2) (hub0.out.mono h2))
  obtain ⟨β, hβ⟩ : ∃ β, rightF C rb = β := ⟨_, rfl⟩
  rw [hβ] at hLb
  replace hβ := Lib.hid hβ
  go_enter Try.func6, Try.ntmps6
  go_wp2_with fail
  refine (hkn.out _).mono ?_
  rintro e w1 ⟨rfl, hb1⟩
  have hB1 := hB0.trans (hb1.mono hB0.size)
  have b1 := b0.grown hb1
  have bA1 := bA.grown hb1
  have bB1 := bB.grown hb1
  have x0 := bA1.cell 0 rfl
  have y0 := bB1.cell 0 rfl
  have z0 := b1.cell 0 rfl
  have z1 := b1.cell 1 rfl
  have z2 := b1.cell 2 rfl
  have z3 := b1.cell 3 rfl
  have z4 := b1.cell 4 rfl
  have z5 := b1.cell 5 rfl
  have z6 := b1.cell 6 rfl
  clear hb1 hB0 b0 bA bB
  go_wp2_with fail
  refine (hmk.out _ hB1).mono ?_
  rintro e w2 ⟨x, y, rfl, hc2, hb2⟩
  obtain ⟨a1, c1, rfl⟩ := hc2.s.len
  obtain ⟨a2, c2, rfl⟩ := hc2.d.lenV hC.dl
  have hB2 := hB1.trans (hb2.mono hB1.size)
  have hb3 := (Below.refl w2.heap.size w2).alloc (Nat.le_refl _) (.cells #[.slice a1 C.s.length c1, .int .i64 C.co, .int .i64 C.ge, .slice a2 C.s.length c2, .int .i64 C.lv] 32)
  have hb23 := hb2.trans (hb3.mono hb2.size)
  have bC := BoxC.new w2 32 #[.slice a1 C.s.length c1, .int .i64 C.co, .int .i64 C.ge, .slice a2 C.s.length c2, .int .i64 C.lv]
  have hc3 := hc2.mono hb3
  have bA2 := bA1.grown hb2
  have bA3 := bA1.grown hb23
  have bB3 := bB1.grown hb23
  have hB3 := hB2.trans (hb3.mono hB2.size)
  have hlA := bA2.lt
  clear hb2 hb3 hb23 hc2 hB2 hB1 b1 bA1 bB1 x0 y0 z0 z1 z2 z3 z4 z5 z6
  have x0 := bA2.cell 0 rfl
  have x1 := bA2.cell 1 rfl
  have x2 := bA2.cell 2 rfl
  go_wp2_with fail
  generalize w2.alloc (.cells #[.slice a1 C.s.length c1, .int .i64 C.co, .int .i64 C.ge, .slice a2 C.s.length c2, .int .i64 C.lv] 32) = V at bC bA3 bB3 hc3 hB3 ⊢
  generalize w2.heap.size = B7 at bC ⊢
  clear x0 x1 x2 hlA bA2
  refine (hLa.out _ _ _ hc3 hB3).mono ?_
  rintro e w4 ⟨rfl, hb4⟩
  have bC4 := bC.grown hb4
  have bA4 := bA3.grown hb4
  have bB4 := bB3.grown hb4
  have hc4 := hc3.mono hb4
  have hB4 := hB3.trans (hb4.mono hB3.size)
  obtain ⟨α, hα⟩ : ∃ α, rightF C ra = α := ⟨_, rfl⟩
  rw [hα] at hRi ⊢
  replace hα := Lib.hid hα
  obtain ⟨F, hF⟩ : ∃ F, eqB ra rb = F := ⟨_, rfl⟩
  rw [hF] at hEq hLe
  clear hF hb4 bC bA3 bB3 hc3 hB3 hLa hmk hkn
  have hS : ∀ X, Below w4.heap.size w4 X → X.cell? ⟨B7, 0, none⟩ = some (.slice a1 C.s.length c1) ∧ X.cell? ⟨B7, 1, none⟩ = some (.int .i64 C.co) ∧ X.cell? ⟨B7, 2, none⟩ = some (.int .i64 C.ge) ∧ X.cell? ⟨B7, 3, none⟩ = some (.slice a2 C.s.length c2) ∧ X.cell? ⟨B7, 4, none⟩ = some (.int .i64 C.lv) ∧ X.cell? ⟨w.heap.size + 1, 0, none⟩ = some (.slice aa ra.s.length ka) ∧ X.cell? ⟨w.heap.size + 1, 1, none⟩ = some (.int .u64 ra.c) ∧ X.cell? ⟨w.heap.size + 1, 2, none⟩ = some (.int .u64 ra.o) ∧ X.cell? ⟨w.heap.size + 1 + 1, 0, none⟩ = some (.slice ab rb.s.length kb) ∧ X.cell? ⟨w.heap.size + 1 + 1, 1, none⟩ = some (.int .u64 rb.c) ∧ X.cell? ⟨w.heap.size + 1 + 1, 2, none⟩ = some (.int .u64 rb.o) := fun X h =>
    have b1 := bC4.grown h
    have b2 := bA4.grown h
    have b3 := bB4.grown h
    ⟨b1.cell 0 rfl, b1.cell 1 rfl, b1.cell 2 rfl, b1.cell 3 rfl, b1.cell 4 rfl, b2.cell 0 rfl, b2.cell 1 rfl, b2.cell 2 rfl, b3.cell 0 rfl, b3.cell 1 rfl, b3.cell 2 rfl⟩
  replace hS := Lib.hid hS
  have hD : Below w4.heap.size w4 w4.drew := (Below.refl _ _).drew
  have hR1 := Lib.hid (hRi.out _ _ w4.drew (hc4.mono hD) (hB4.trans (hD.mono hB4.size)))
  go_wp2_with fail
  go_region_held3 (fun X : World => X.cell? ⟨B7, 0, none⟩ = some (.slice a1 C.s.length c1) ∧ X.cell? ⟨B7, 1, none⟩ = some (.int .i64 C.co) ∧ X.cell? ⟨B7, 2, none⟩ = some (.int .i64 C.ge) ∧ X.cell? ⟨B7, 3, none⟩ = some (.slice a2 C.s.length c2) ∧ X.cell? ⟨B7, 4, none⟩ = some (.int .i64 C.lv) ∧ X.cell? ⟨w.heap.size + 1, 0, none⟩ = some (.slice aa ra.s.length ka) ∧ X.cell? ⟨w.heap.size + 1, 1, none⟩ = some (.int .u64 ra.c) ∧ X.cell? ⟨w.heap.size + 1, 2, none⟩ = some (.int .u64 ra.o) ∧ X.cell? ⟨w.heap.size + 1 + 1, 0, none⟩ = some (.slice ab rb.s.length kb) ∧ X.cell? ⟨w.heap.size + 1 + 1, 1, none⟩ = some (.int .u64 rb.c) ∧ X.cell? ⟨w.heap.size + 1 + 1, 2, none⟩ = some (.int .u64 rb.o))
    (first | (with_reducible exact hS.out _ hD) | (with_reducible exact hS.out _ hD5) | (with_reducible exact hS.out _ hD6) | (with_reducible exact hS.out _ hD7))
    (first | (go_at_call 21; (with_reducible refine hR1.out.mono ?_); rintro e w5 ⟨rfl, hb5⟩; have hD5 := hD.trans (hb5.mono hD.size); have hE1 := Lib.hid (hEq.out w5 (hB4.trans (hD5.mono hB4.size))))
           | (go_at_call 22; (with_reducible refine hE1.out.mono ?_); rintro e w6 ⟨rfl, hb6⟩; have hD6 := hD5.trans (hb6.mono hD5.size); have hL1 := Lib.hid (hLe.out w6 (hB4.trans (hD6.mono hB4.size))))
           | (go_at_call 13; (with_reducible refine hL1.out.mono ?_); rintro e w7 ⟨rfl, hb7⟩; have hD7 := hD6.trans (hb7.mono hD6.size)))
  all_goals
    have hBx := hB4.trans (hD7.mono hB4.size)
    have bC5 := bC4.grown hD7
    have bA5 := bA4.grown hD7
    have bB5 := bB4.grown hD7
    have hc5 := hc4.mono hD7
    have hC0 := Lib.hid hC
    clear hS hD hD5 hD6 hD7 hb5 hb6 hb7 hR1 hE1 hL1 bC4 bA4 bB4 hc4 hB4 hRi hEq hLe hC
    have p0 := bC5.cell 0 rfl
    have p1 := bC5.cell 1 rfl
    have p2 := bC5.cell 2 rfl
    have p3 := bC5.cell 3 rfl
    have p4 := bC5.cell 4 rfl
    have x0 := bA5.cell 0 rfl
    have x1 := bA5.cell 1 rfl
    have x2 := bA5.cell 2 rfl
    have y0 := bB5.cell 0 rfl
    have y1 := bB5.cell 1 rfl
    have y2 := bB5.cell 2 rfl
    go_wp2_with fail
    refine (hCh.out _ _ _ hc5 hBx).mono ?_
    rintro e w8 ⟨hb8, hch⟩
    rw [hα.out, hβ.out] at hch
    have bC8 := bC5.grown hb8
    have bA8 := bA5.grown hb8
    have bB8 := bB5.grown hb8
    have hc8 := hc5.mono hb8
    have hB8 := hBx.trans (hb8.mono hBx.size)
    have hb1 := Lib.hid (hLb.out _ _ _ hc8 hB8)
    clear p0 p1 p2 p3 p4 x0 x1 x2 y0 y1 y2 bC5 bA5 bB5 hc5 hBx hb8 hCh hLb
    have p0 := bC8.cell 0 rfl
    have p1 := bC8.cell 1 rfl
    have p2 := bC8.cell 2 rfl
    have p3 := bC8.cell 3 rfl
    have p4 := bC8.cell 4 rfl
    have y0 := bB8.cell 0 rfl
    have y1 := bB8.cell 1 rfl
    have y2 := bB8.cell 2 rfl
    rcases hch with ⟨h1, rfl⟩ | ⟨h1, h2, rfl⟩ | ⟨h1, h2, vE, rfl, hE⟩
    · have h1b : (α == 0) = false := by simpa using h1
      have h1c : (α != 0) = true := by simpa using h1
      replace h1 := Lib.hid h1
      go_wp2
      go_ret
      exact ⟨rfl, hB8⟩
    · subst h1
      have h2b : (β == 0) = false := by simpa using h2
      have h2c : (β != 0) = true := by simpa using h2
      replace h2 := Lib.hid h2
      go_wp2_with fail
      refine hb1.out.mono ?_
      rintro e w9 ⟨rfl, hb9⟩
      go_wp2
      go_ret
      exact ⟨rfl, hB8.trans (hb9.mono hB8.size)⟩
    · subst h1
      subst h2
      go_wp2_with fail
      refine hb1.out.mono ?_
      rintro e w9 ⟨rfl, hb9⟩
      have bC9 := bC8.grown hb9
      have bA9 := bA8.grown hb9
      have bB9 := bB8.grown hb9
      have hc9 := hc8.mono hb9
      have hB9 := hB8.trans (hb9.mono hB8.size)
      have hE9 := hE.mono hb9
      have hka := RegOk.of hα.out
      have hkb := RegOk.of hβ.out
      rw [change_own hC0.out hka hkb] at hE9
      have hna : ra.s.length = C.s.length := hka.n
      have hnb : rb.s.length = C.s.length := hkb.n
      have hsz : ∀ k, 0 ≤ nth C.s k ∧ nth C.s k ≤ 4 := hC0.out.s
      have hn3 := hC0.out.n
      have hco := hC0.out.co
      replace hna := Lib.hid hna
      replace hnb := Lib.hid hnb
      replace hsz := Lib.hid hsz
      replace hE9 := Lib.hid hE9
      clear p0 p1 p2 p3 p4 y0 y1 y2 hE hka hkb bC8 bA8 bB8 hc8 hB8 hb1 hb9 hα hβ
      have p0 := bC9.cell 0 rfl
      go_wp2_with fail
      go_loopw [11, 75] (fun v i X => ∃ (k : Nat) (κ : Nat → Role), k ≤ C.s.length ∧ i = .int .i64 k ∧ EvO w9.heap.size κ v (stopsF ra.s rb.s (fun i => (nth C.s i).toNat) k) X ∧ Below w9.heap.size w9 X) (fun _ i _ => C.s.length - (intOf i).toNat)
      case atStart => exact ⟨0, fun _ => (0, 0, 0), Nat.zero_le _, rfl, RowX.nil _ _ _ _ _ _ _, Below.refl _ _⟩
      case round =>
        clear p0
        obtain ⟨k, κ, hk, rfl, hO, hBX⟩ := hrel
        by_cases hlt : k < C.s.length
        · obtain ⟨g0, o0, cp0, he0, hk0⟩ := (hc9.s.mono hBX).at hlt
          cases he0
          have d0 := hk0 k hlt
          have p0 := (bC9.grown hBX).cell 0 rfl
          have hki : (k : Int) < (C.s.length : Int) := by omega
          have hz := hsz.out k
          have hst : stopsF ra.s rb.s (fun i => (nth C.s i).toNat) (k + 1) = stopsF ra.s rb.s (fun i => (nth C.s i).toNat) k ++ turnF 1 k (xorI (nth ra.s k) (nth rb.s k)) (nth C.s k).toNat := stops_next ra.s rb.s (fun i => (nth C.s i).toNat) k
          have hsl := stops_len4 ra.s rb.s (fun i => (nth C.s i).toNat) (fun i => by have := hsz.out i; show (nth C.s i).toNat ≤ 4; omega) k
          have hl3 : (stopsF ra.s rb.s (fun i => (nth C.s i).toNat) k).length ≤ 100 := by omega
          generalize stopsF ra.s rb.s (fun i => (nth C.s i).toNat) k = es at hst hl3 hO
          generalize nth C.s k = z at d0 hz hst
          replace hst := Lib.hid hst
          clear hk0 hsl
          go_wp2_with fail
          go_loopw [11, 83] (fun v i X => ∃ (j : Nat) (κ : Nat → Role), (j : Int) ≤ z ∧ i = .int .i64 j ∧ EvO w9.heap.size κ v (es ++ turnF 1 k (xorI (nth ra.s k) (nth rb.s k)) j) X ∧ Below w9.heap.size w9 X) (fun _ i _ => z.toNat - (intOf i).toNat)
          case atStart => exact ⟨0, κ, by omega, rfl, by simpa [turnF] using hO, hBX⟩
          case round =>
            clear p0 d0 hO hBX
            obtain ⟨j, κ, hj, rfl, hO, hBX⟩ := hrel
            by_cases hlt2 : (j : Int) < z
            · have hBw := hB9.trans (hBX.mono hB9.size)
              obtain ⟨g1, o1, cp1, he1, hk1⟩ := (hua0.out.mono hBw).at (k := k) (by have := hna.out; omega)
              obtain ⟨e1, e2, e3⟩ := Value.slice.inj he1
              subst e1 e3
              obtain ⟨g2, o2, cp2, he2, hk2⟩ := (hub0.out.mono hBw).at (k := k) (by have := hnb.out; omega)
              obtain ⟨e4, e5, e6⟩ := Value.slice.inj he2
              subst e4 e6
              have d1 := hk1 k (by have := hna.out; omega)
              have d2 := hk2 k (by have := hnb.out; omega)
              have x0 := (bA9.grown hBX).cell 0 rfl
              have y0 := (bB9.grown hBX).cell 0 rfl
              have hka : (k : Int) < (ra.s.length : Int) := by have := hna.out; omega
              have hkb : (k : Int) < (rb.s.length : Int) := by have := hnb.out; omega
              have hj64 : (j : Int) < 64 := by omega
              clear he1 he2 e2 e5 hk1 hk2
              have hes0 := turn_len 1 k (xorI (nth ra.s k) (nth rb.s k)) j
              have hlen : (es ++ turnF 1 k (xorI (nth ra.s k) (nth rb.s k)) j).length ≤ 1000 := by rw [List.length_append]; omega
              have hLX := hBX.size
              obtain ⟨bb, hbb⟩ : ∃ bb, bitT (xorI (nth ra.s k) (nth rb.s k)) j = bb := ⟨_, rfl⟩
              have hbit : (bits BinOp.and .u64 ((xorI (nth ra.s k) (nth rb.s k)) / 2 ^ j) 1 == 1) = bb := by rw [← hbb]; rfl
              unfold xorI at hbit
              cases bb with
              | false =>
                have ht := turn_no (k := 1) (d := k) hbb
                replace ht := Lib.hid ht
                replace hbb := Lib.hid hbb
                go_wp2_with fail
                go_quiet (fail)
                have hO2 := RowX.below hO (below_drewN (Below.refl _ _) nq)
                have hBX2 := below_drewN hBX nq
                go_wp2_with fail
                go_roundw
                case rel => exact ⟨j + 1, κ, by omega, by go_num, by rw [ht.out]; exact hO2, hBX2⟩
                case measure => simp [intOf]; omega
              | true =>
                have ht := turn_yes (k := 1) (d := k) hbb
                have hes : es ++ turnF 1 k (xorI (nth ra.s k) (nth rb.s k)) (j + 1) = (es ++ turnF 1 k (xorI (nth ra.s k) (nth rb.s k)) j) ++ [⟨1, k, (j : Int)⟩] := by rw [ht, List.append_assoc]
                replace hbb := Lib.hid hbb
                clear ht
                generalize es ++ turnF 1 k (xorI (nth ra.s k) (nth rb.s k)) j = fs at hO hlen hes
                replace hes := Lib.hid hes
                go_wp2_with fail
                go_quiet (fail)
                have hO2 : EvO w9.heap.size κ _ fs (wr.drewN nq) := RowX.below hO (below_drewN (Below.refl _ _) nq)
                have hBX2 := below_drewN hBX nq
                have hLZ := hBX2.size
                generalize wr.drewN nq = Z at hO2 hBX2 hLZ ⊢
                have hrow : RowX w9.heap.size κ (0, 0, 0) 28 3 _ fs.length (evC fs) (Z.alloc (.cells #[.int .i64 1, .int .i64 k, .int .i64 (j : Int)] 28)) := RowX.alloc hO2 _
                go_wp2_with (at_builtin; refine wpList_apX ap26 rfl _ _ rfl rfl hrow (by simp; omega) ⟨Z.heap.size, 0, none⟩ 1 [.int .i64 1, .int .i64 k, .int .i64 (j : Int)] rfl rfl (laid_news Z _ 28) (by simp [Value.oneCell']) (by unfold maxLen; omega) (by omega) ?_; intro v' w4 hrow4 hfr4 hoth4; obtain ⟨a6, cap6, rfl⟩ := hrow4.len)
                have hO4 := EvO.push (x := ⟨1, k, (j : Int)⟩) hrow4
                have hb3 := (Below.refl Z.heap.size Z).alloc (Nat.le_refl _) (.cells #[.int .i64 1, .int .i64 k, .int .i64 (j : Int)] 28)
                have h1 := hBX2.trans (hb3.mono (by omega))
                have h2 := h1.trans (hfr4.below (by simp; omega))
                go_roundw
                case rel => exact ⟨j + 1, _, by omega, by go_num, by rw [hes.out]; exact hO4, h2⟩
                case measure => simp [intOf]; omega
            · have hjz : z.toNat = j := by omega
              have hjz2 : z = (j : Int) := by omega
              rw [hjz] at hst
              subst hjz2
              clear hjz
              go_wp2_with fail
              go_roundw
              case rel => exact ⟨k + 1, κ, by omega, by go_num, by rw [hst.out]; exact hO, hBX⟩
              case measure => simp [intOf]; omega
        · obtain rfl : k = C.s.length := by omega
          have p1 := (bC9.grown hBX).cell 1 rfl
          have hsl := stops_len4 ra.s rb.s (fun i => (nth C.s i).toNat) (fun i => by have := hsz.out i; show (nth C.s i).toNat ≤ 4; omega) C.s.length
          have hl3 : (stopsF ra.s rb.s (fun i => (nth C.s i).toNat) C.s.length).length ≤ 100 := by omega
          obtain ⟨es, hes9⟩ : ∃ es, stopsF ra.s rb.s (fun i => (nth C.s i).toNat) C.s.length = es := ⟨_, rfl⟩
          rw [hes9] at hl3 hO
          replace hes9 := Lib.hid hes9
          clear hsl
          go_wp2_with fail
          go_loopw [11, 111] (fun v i X => ∃ (j : Nat) (κ : Nat → Role), (j : Int) ≤ C.co ∧ i = .int .i64 j ∧ EvO w9.heap.size κ v (es ++ turnF 2 0 (xorI ra.c rb.c) j) X ∧ Below w9.heap.size w9 X) (fun _ i _ => C.co.toNat - (intOf i).toNat)
          case atStart => exact ⟨0, κ, by omega, rfl, by simpa [turnF] using hO, hBX⟩
          case round =>
            clear p1 hO hBX
            obtain ⟨j, κ, hj, rfl, hO, hBX⟩ := hrel
            by_cases hlt2 : (j : Int) < C.co
            · have x1 := (bA9.grown hBX).cell 1 rfl
              have y1 := (bB9.grown hBX).cell 1 rfl
              have hj64 : (j : Int) < 64 := by omega
              have hes0 := turn_len 2 0 (xorI ra.c rb.c) j
              have hlen : (es ++ turnF 2 0 (xorI ra.c rb.c) j).length ≤ 1000 := by rw [List.length_append]; omega
              have hLX := hBX.size
              obtain ⟨bb, hbb⟩ : ∃ bb, bitT (xorI ra.c rb.c) j = bb := ⟨_, rfl⟩
              have hbit : (bits BinOp.and .u64 ((xorI ra.c rb.c) / 2 ^ j) 1 == 1) = bb := by rw [← hbb]; rfl
              unfold xorI at hbit
              cases bb with
              | false =>
                have ht := turn_no (k := 2) (d := 0) hbb
                replace ht := Lib.hid ht
                replace hbb := Lib.hid hbb
                go_wp2_with fail
                have hO2 := hO
                have hBX2 := hBX
                go_roundw
                case rel => exact ⟨j + 1, κ, by omega, by go_num, by rw [ht.out]; exact hO2, hBX2⟩
                case measure => simp [intOf]; omega
              | true =>
                have ht := turn_yes (k := 2) (d := 0) hbb
                have hes : es ++ turnF 2 0 (xorI ra.c rb.c) (j + 1) = (es ++ turnF 2 0 (xorI ra.c rb.c) j) ++ [⟨2, 0, (j : Int)⟩] := by rw [ht, List.append_assoc]
                replace hbb := Lib.hid hbb
                clear ht
                generalize es ++ turnF 2 0 (xorI ra.c rb.c) j = fs at hO hlen hes
                replace hes := Lib.hid hes
                have hO2 := hO
                have hBX2 := hBX
                have hLZ := hBX2.size
                have hrow : RowX w9.heap.size κ (0, 0, 0) 28 3 _ fs.length (evC fs) (wr.alloc (.cells #[.int .i64 2, .int .i64 0, .int .i64 (j : Int)] 28)) := RowX.alloc hO2 _
                go_wp2_with (at_builtin; refine wpList_apX ap26 rfl _ _ rfl rfl hrow (by simp; omega) ⟨wr.heap.size, 0, none⟩ 1 [.int .i64 2, .int .i64 0, .int .i64 (j : Int)] rfl rfl (laid_news wr _ 28) (by simp [Value.oneCell']) (by unfold maxLen; omega) (by omega) ?_; intro v' w4 hrow4 hfr4 hoth4; obtain ⟨a6, cap6, rfl⟩ := hrow4.len)
                have hO4 := EvO.push (x := ⟨2, 0, (j : Int)⟩) hrow4
                have hb3 := (Below.refl wr.heap.size wr).alloc (Nat.le_refl _) (.cells #[.int .i64 2, .int .i64 0, .int .i64 (j : Int)] 28)
                have h1 := hBX2.trans (hb3.mono (by omega))
                have h2 := h1.trans (hfr4.below (by simp; omega))
                go_roundw
                case rel => exact ⟨j + 1, _, by omega, by go_num, by rw [hes.out]; exact hO4, h2⟩
                case measure => simp [intOf]; omega
            · have hjz : C.co.toNat = j := by omega
              have p0 := (bC9.grown hBX).cell 0 rfl
              have htl := turn_len 2 0 (xorI ra.c rb.c) j
              have hl4 : (es ++ turnF 2 0 (xorI ra.c rb.c) j).length ≤ 200 := by rw [List.length_append]; omega
              obtain ⟨gs, hgs⟩ : ∃ gs, es ++ turnF 2 0 (xorI ra.c rb.c) j = gs := ⟨_, rfl⟩
              rw [hgs] at hO hl4
              have hown : ownF C ra rb = gs ++ turnF 3 0 (xorI ra.o rb.o) C.s.length := by unfold ownF; rw [hes9.out, hjz, hgs]
              replace hown := Lib.hid hown
              replace hjz := Lib.hid hjz
              clear hgs htl
              go_wp2_with fail
              go_loopw [11, 132] (fun v i X => ∃ (j : Nat) (κ : Nat → Role), j ≤ C.s.length ∧ i = .int .i64 j ∧ EvO w9.heap.size κ v (gs ++ turnF 3 0 (xorI ra.o rb.o) j) X ∧ Below w9.heap.size w9 X) (fun _ i _ => C.s.length - (intOf i).toNat)
              case atStart => exact ⟨0, κ, by omega, rfl, by simpa [turnF] using hO, hBX⟩
              case round =>
                clear p0 hO hBX
                obtain ⟨j, κ, hj, rfl, hO, hBX⟩ := hrel
                by_cases hlt2 : j < C.s.length
                · have x2 := (bA9.grown hBX).cell 2 rfl
                  have y2 := (bB9.grown hBX).cell 2 rfl
                  have hji : (j : Int) < (C.s.length : Int) := by omega
                  have hj64 : (j : Int) < 64 := by omega
                  have hes0 := turn_len 3 0 (xorI ra.o rb.o) j
                  have hlen : (gs ++ turnF 3 0 (xorI ra.o rb.o) j).length ≤ 1000 := by rw [List.length_append]; omega
                  have hLX := hBX.size
                  obtain ⟨bb, hbb⟩ : ∃ bb, bitT (xorI ra.o rb.o) j = bb := ⟨_, rfl⟩
                  have hbit : (bits BinOp.and .u64 ((xorI ra.o rb.o) / 2 ^ j) 1 == 1) = bb := by rw [← hbb]; rfl
                  unfold xorI at hbit
                  cases bb with
                  | false =>
                    have ht := turn_no (k := 3) (d := 0) hbb
                    replace ht := Lib.hid ht
                    replace hbb := Lib.hid hbb
                    go_wp2_with fail
                    have hO2 := hO
                    have hBX2 := hBX
                    go_roundw
                    case rel => exact ⟨j + 1, κ, by omega, by go_num, by rw [ht.out]; exact hO2, hBX2⟩
                    case measure => simp [intOf]; omega
                  | true =>
                    have ht := turn_yes (k := 3) (d := 0) hbb
                    have hes : gs ++ turnF 3 0 (xorI ra.o rb.o) (j + 1) = (gs ++ turnF 3 0 (xorI ra.o rb.o) j) ++ [⟨3, 0, (j : Int)⟩] := by rw [ht, List.append_assoc]
                    replace hbb := Lib.hid hbb
                    clear ht
                    generalize gs ++ turnF 3 0 (xorI ra.o rb.o) j = fs at hO hlen hes
                    replace hes := Lib.hid hes
                    have hO2 := hO
                    have hBX2 := hBX
                    have hLZ := hBX2.size
                    have hrow : RowX w9.heap.size κ (0, 0, 0) 28 3 _ fs.length (evC fs) (wr.alloc (.cells #[.int .i64 3, .int .i64 0, .int .i64 (j : Int)] 28)) := RowX.alloc hO2 _
                    go_wp2_with (at_builtin; refine wpList_apX ap26 rfl _ _ rfl rfl hrow (by simp; omega) ⟨wr.heap.size, 0, none⟩ 1 [.int .i64 3, .int .i64 0, .int .i64 (j : Int)] rfl rfl (laid_news wr _ 28) (by simp [Value.oneCell']) (by unfold maxLen; omega) (by omega) ?_; intro v' w4 hrow4 hfr4 hoth4; obtain ⟨a6, cap6, rfl⟩ := hrow4.len)
                    have hO4 := EvO.push (x := ⟨3, 0, (j : Int)⟩) hrow4
                    have hb3 := (Below.refl wr.heap.size wr).alloc (Nat.le_refl _) (.cells #[.int .i64 3, .int .i64 0, .int .i64 (j : Int)] 28)
                    have h1 := hBX2.trans (hb3.mono (by omega))
                    have h2 := h1.trans (hfr4.below (by simp; omega))
                    go_roundw
                    case rel => exact ⟨j + 1, _, by omega, by go_num, by rw [hes.out]; exact hO4, h2⟩
                    case measure => simp [intOf]; omega
                · obtain rfl : j = C.s.length := by omega
                  have htl := turn_len 3 0 (xorI ra.o rb.o) C.s.length
                  have hll : (ownF C ra rb).length ≤ 1000 := by rw [hown.out, List.length_append]; omega
                  rw [← hown.out] at hO
                  have hev := Lib.hid (evEqual_any _ _ (ownF C ra rb) wr (hE9.out.mono hBX) (EvO.rd hO) hll)
                  clear hO htl hll
                  go_wp2_with fail
                  refine hev.out.mono ?_
                  rintro e w10 ⟨rfl, hb10⟩
                  go_wp2
                  go_ret
                  exact ⟨rfl, (hB9.trans (hBX.mono hB9.size)).trans (hb10.mono (hB9.trans (hBX.mono hB9.size)).size)⟩
end Go.Proofs.Ytgnamahdchefnaa
