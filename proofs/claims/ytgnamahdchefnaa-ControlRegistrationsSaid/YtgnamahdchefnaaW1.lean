/- Contracts of slices.Equal on numbers, of Equal and of the model's equal. Conditions: lists of at most 2^62 numbers. -/
import Derived.Test.YtgnamahdchefnaaW0
import Derived.BigQuiet
import Derived.Deep.QuietTactic
import Derived.IntWalk
namespace Go.Proofs.Ytgnamahdchefnaa
open Go.RowKit Go.Shelf

set_option maxHeartbeats 4000000 in
theorem slEqual_any (v u : Value) (xs ys : List Int) (w : World) (hv : NumSl .u64 w v xs) (hu : NumSl .u64 w u ys) (hn : xs.length ≤ 4611686018427387904) : Calls Try.prog 26 #[v, u] w (BoolBelow (xs == ys) w) := by
  obtain ⟨a, cap, rfl⟩ := hv.len
  by_cases hl : ys.length = xs.length
  · obtain ⟨a2, cap2, rfl⟩ := hu.lenV hl
    obtain ⟨F, hF⟩ : ∃ F, (xs == ys) = F := ⟨_, rfl⟩
    rw [hF]
    replace hF := Lib.hid hF
    replace hl := Lib.hid hl
    go_enter Try.func26, Try.ntmps26
    go_wp2
    go_loopw [13] (fun i W => ∃ k : Nat, k ≤ xs.length ∧ i = .int .i64 k ∧ Hid (∀ j, j < k → nth xs j = nth ys j) ∧ Below w.heap.size w W) (fun i _ => xs.length - (intOf i).toNat)
    case atStart => exact ⟨0, Nat.zero_le _, rfl, Lib.hid (fun j hj => by omega), Below.refl _ _⟩
    case round =>
      obtain ⟨k, hk, rfl, hE, hB⟩ := hrel
      by_cases hlt : k < xs.length
      · obtain ⟨b, off, cap', he, hc⟩ := (hv.mono hB).at hlt
        cases he
        obtain ⟨b2, off2, cap2', he2, hc2⟩ := (hu.mono hB).atN hl.out hlt
        cases he2
        have cx := hc k hlt
        have cy := hc2 k hlt
        clear hc hc2
        obtain ⟨x, hx⟩ : ∃ x, nth xs k = x := ⟨_, rfl⟩
        obtain ⟨y, hy⟩ : ∃ y, nth ys k = y := ⟨_, rfl⟩
        rw [hx] at cx
        rw [hy] at cy
        replace hx := Lib.hid hx
        replace hy := Lib.hid hy
        have hki : (k : Int) < (xs.length : Int) := by omega
        by_cases hxy : x = y
        · subst hxy
          have hE2 : ∀ j, j < k + 1 → nth xs j = nth ys j := fun j hj => by
            rcases Nat.lt_or_ge j k with h1 | h1
            · exact hE.out j h1
            · obtain rfl : j = k := by omega
              exact hx.out.trans hy.out.symm
          replace hE2 := Lib.hid hE2
          go_wp2_with fail
          go_quiet (fail)
          go_wp2_with fail
          go_roundw
          case rel => exact ⟨k + 1, by omega, by go_num, hE2, below_drewN hB _⟩
          case measure => simp [intOf]; omega
        · have hb : (x == y) = false := by simpa using hxy
          have hb2 : (x != y) = true := by simpa using hxy
          have hne : F = false := by
            rw [← hF.out]
            simp only [beq_eq_false_iff_ne, ne_eq]
            intro e
            rw [e] at hx
            exact hxy (hx.out.symm.trans hy.out)
          subst hne
          clear hxy
          go_wp2_with fail
          go_quiet (fail)
          go_wp2_with fail
          go_ret
          exact ⟨rfl, below_drewN hB _⟩
      · obtain rfl : k = xs.length := by omega
        have hne : F = true := by
          rw [← hF.out]
          simp only [beq_iff_eq]
          exact ext_nth hl.out.symm hE.out
        subst hne
        go_wp2_with fail
        go_ret
        exact ⟨rfl, hB⟩
  · obtain ⟨a2, cap2, rfl⟩ := hu.len
    have h1 : ((xs.length : Int) != (ys.length : Int)) = true := bne_iff_ne.2 (by omega)
    have h2 : (xs == ys) = false := by
      simp only [beq_eq_false_iff_ne, ne_eq]
      intro e
      exact hl (by rw [e])
    rw [h2]
    clear hl h2
    go_enter Try.func26, Try.ntmps26
    go_wp2
    go_ret
    exact ⟨rfl, Below.refl _ _⟩

set_option maxHeartbeats 4000000 in
theorem Equal_any (v u : Value) (a b : Rg) (w : World) (hv : NumSl .u64 w v a.s) (hu : NumSl .u64 w u b.s) (hn : a.s.length ≤ 4611686018427387904) : Calls Try.prog 22 #[regV v a.c a.o, regV u b.c b.o] w (BoolBelow (eqB a b) w) := by
  have hB := ((Below.refl w.heap.size w).alloc (Nat.le_refl _) (.cells #[v, .int .u64 a.c, .int .u64 a.o] 37)).alloc (by simp) (.cells #[u, .int .u64 b.c, .int .u64 b.o] 37)
  have bP := (BoxC.new w 37 #[v, .int .u64 a.c, .int .u64 a.o]).alloc (.cells #[u, .int .u64 b.c, .int .u64 b.o] 37)
  have bR := BoxC.new (w.alloc (.cells #[v, .int .u64 a.c, .int .u64 a.o] 37)) 37 #[u, .int .u64 b.c, .int .u64 b.o]
  simp only [World.size_alloc] at bR
  have hq := slEqual_any v u a.s b.s _ (hv.mono hB) (hu.mono hB) hn
  obtain ⟨a1, cap1, rfl⟩ := hv.len
  obtain ⟨a2, cap2, rfl⟩ := hu.len
  unfold eqB
  obtain ⟨F, hF⟩ : ∃ F, (a.s == b.s) = F := ⟨_, rfl⟩
  rw [hF] at hq ⊢
  generalize a.s.length = n1 at *
  generalize b.s.length = n2 at *
  generalize a.c = c1 at *
  generalize b.c = c2 at *
  generalize a.o = o1 at *
  generalize b.o = o2 at *
  clear hF hv hu
  replace hq := Lib.hid hq
  cases F
  · go_enter Try.func22, Try.ntmps22
    go_wp2_with fail
    refine hq.out.mono ?_
    rintro e w1 ⟨rfl, hb1⟩
    go_wp2
    go_ret
    exact ⟨rfl, hB.trans (hb1.mono hB.size)⟩
  · by_cases hc : c1 = c2
    · by_cases ho : o1 = o2
      · subst hc ho
        go_enter Try.func22, Try.ntmps22
        go_wp2_with fail
        refine hq.out.mono ?_
        rintro e w1 ⟨rfl, hb1⟩
        have bP1 := bP.grown hb1
        have bR1 := bR.grown hb1
        have p1 := bP1.cell 1 rfl
        have p2 := bP1.cell 2 rfl
        have q1 := bR1.cell 1 rfl
        have q2 := bR1.cell 2 rfl
        go_wp2
        go_ret
        exact ⟨ret_bool (by simp), hB.trans (hb1.mono hB.size)⟩
      · subst hc
        have hof : (o1 == o2) = false := by simpa using ho
        clear ho
        go_enter Try.func22, Try.ntmps22
        go_wp2_with fail
        refine hq.out.mono ?_
        rintro e w1 ⟨rfl, hb1⟩
        have bP1 := bP.grown hb1
        have bR1 := bR.grown hb1
        have p1 := bP1.cell 1 rfl
        have p2 := bP1.cell 2 rfl
        have q1 := bR1.cell 1 rfl
        have q2 := bR1.cell 2 rfl
        go_wp2
        go_ret
        exact ⟨ret_bool (by simp [hof]), hB.trans (hb1.mono hB.size)⟩
    · have hcf : (c1 == c2) = false := by simpa using hc
      clear hc
      go_enter Try.func22, Try.ntmps22
      go_wp2_with fail
      refine hq.out.mono ?_
      rintro e w1 ⟨rfl, hb1⟩
      have bP1 := bP.grown hb1
      have bR1 := bR.grown hb1
      have p1 := bP1.cell 1 rfl
      have p2 := bP1.cell 2 rfl
      have q1 := bR1.cell 1 rfl
      have q2 := bR1.cell 2 rfl
      go_wp2
      go_ret
      exact ⟨ret_bool (by simp [hcf]), hB.trans (hb1.mono hB.size)⟩

set_option maxHeartbeats 4000000 in
theorem lawEqual_any (v u : Value) (a b : Rg) (w : World) (hv : NumSl .u64 w v a.s) (hu : NumSl .u64 w u b.s) (hn : a.s.length ≤ 4611686018427387904) : Calls Try.prog 13 #[regV v a.c a.o, regV u b.c b.o] w (BoolBelow (eqB a b) w) := by
  have hB := ((Below.refl w.heap.size w).alloc (Nat.le_refl _) (.cells #[v, .int .u64 a.c, .int .u64 a.o] 37)).alloc (by simp) (.cells #[u, .int .u64 b.c, .int .u64 b.o] 37)
  have bP := (BoxC.new w 37 #[v, .int .u64 a.c, .int .u64 a.o]).alloc (.cells #[u, .int .u64 b.c, .int .u64 b.o] 37)
  have bR := BoxC.new (w.alloc (.cells #[v, .int .u64 a.c, .int .u64 a.o] 37)) 37 #[u, .int .u64 b.c, .int .u64 b.o]
  simp only [World.size_alloc] at bR
  have hq := slEqual_any v u a.s b.s _ (hv.mono hB) (hu.mono hB) hn
  obtain ⟨a1, cap1, rfl⟩ := hv.len
  obtain ⟨a2, cap2, rfl⟩ := hu.len
  unfold eqB
  obtain ⟨F, hF⟩ : ∃ F, (a.s == b.s) = F := ⟨_, rfl⟩
  rw [hF] at hq ⊢
  generalize a.s.length = n1 at *
  generalize b.s.length = n2 at *
  generalize a.c = c1 at *
  generalize b.c = c2 at *
  generalize a.o = o1 at *
  generalize b.o = o2 at *
  clear hF hv hu
  replace hq := Lib.hid hq
  cases F
  · go_enter Try.func13, Try.ntmps13
    go_wp2_with fail
    refine hq.out.mono ?_
    rintro e w1 ⟨rfl, hb1⟩
    go_wp2
    go_ret
    exact ⟨rfl, hB.trans (hb1.mono hB.size)⟩
  · by_cases hc : c1 = c2
    · by_cases ho : o1 = o2
      · subst hc ho
        go_enter Try.func13, Try.ntmps13
        go_wp2_with fail
        refine hq.out.mono ?_
        rintro e w1 ⟨rfl, hb1⟩
        have bP1 := bP.grown hb1
        have bR1 := bR.grown hb1
        have p1 := bP1.cell 1 rfl
        have p2 := bP1.cell 2 rfl
        have q1 := bR1.cell 1 rfl
        have q2 := bR1.cell 2 rfl
        go_wp2
        go_ret
        exact ⟨ret_bool (by simp), hB.trans (hb1.mono hB.size)⟩
      · subst hc
        have hof : (o1 == o2) = false := by simpa using ho
        clear ho
        go_enter Try.func13, Try.ntmps13
        go_wp2_with fail
        refine hq.out.mono ?_
        rintro e w1 ⟨rfl, hb1⟩
        have bP1 := bP.grown hb1
        have bR1 := bR.grown hb1
        have p1 := bP1.cell 1 rfl
        have p2 := bP1.cell 2 rfl
        have q1 := bR1.cell 1 rfl
        have q2 := bR1.cell 2 rfl
        go_wp2
        go_ret
        exact ⟨ret_bool (by simp [hof]), hB.trans (hb1.mono hB.size)⟩
    · have hcf : (c1 == c2) = false := by simpa using hc
      clear hc
      go_enter Try.func13, Try.ntmps13
      go_wp2_with fail
      refine hq.out.mono ?_
      rintro e w1 ⟨rfl, hb1⟩
      have bP1 := bP.grown hb1
      have bR1 := bR.grown hb1
      have p1 := bP1.cell 1 rfl
      have p2 := bP1.cell 2 rfl
      have q1 := bR1.cell 1 rfl
      have q2 := bR1.cell 2 rfl
      go_wp2
      go_ret
      exact ⟨ret_bool (by simp [hcf]), hB.trans (hb1.mono hB.size)⟩
end Go.Proofs.Ytgnamahdchefnaa
