/- Contracts of the model's in, step, run and misses. Conditions: a right reservoir with right demands (Okay). -/
import Derived.Test.YtbflocamicebhaaW8
import Derived.Deep.RegionWith
import Derived.Deep.RegionHeld3
import Derived.Deep.DeepCutAuto
namespace Go.Proofs.Ytbflocamicebhaa
open Go.RowKit Go.Shelf

set_option maxHeartbeats 400000 in
theorem in_any (n m : Int) (w : World) :
    Calls Try.prog 19 #[.int .i64 n, .int .i64 m] w fun e w' => e = .returned (.bool (windB n m)) ∧ w = w' := by
  by_cases h : 0 ≤ n
  · go_enter Try.func19, Try.ntmps19
    go_wp2
    go_ret
    simp [windB, h]
  · have h' : n < 0 := by omega
    go_enter Try.func19, Try.ntmps19
    go_wp2
    go_ret
    simp [windB]; omega

set_option maxHeartbeats 400000 in
theorem lstep_any (c l s q level demand : Int) (w : World) (h1 : -1000000000 ≤ level) (h2 : level ≤ 1000000000) (h3 : -1000000000 ≤ s) (h4 : s ≤ 1000000000) (h5 : 0 ≤ demand) (h6 : demand ≤ 1000000000)
  (h7 : -1000000000 ≤ c) (h8 : c ≤ 1000000000) :
    Calls Try.prog 20 #[.agg #[.int .i64 c, .int .i64 l, .int .i64 s, .int .i64 q], .int .i64 level, .int .i64 demand] w fun e w' => 
      e = .returned (stV (stepF c s level demand)) ∧ Below w.heap.size w w' := by
  go_enter Try.func20, Try.ntmps20
  go_wp2
  · have h : level + s - demand < 0 := by assumption
    refine bodyPost_ret (v := stV (0, 0, -(level + s - demand))) (by simp [results, Try.results20, go_sem]) rfl ⟨?_, ?_⟩
    · rw [stepF_neg h]
    · exact (((Below.refl _ _).alloc (Nat.le_refl _) _).alloc (by simp) _)
  · have h : 0 ≤ level + s - demand := by assumption
    have h' : c < level + s - demand := by assumption
    refine bodyPost_ret (v := stV (c, level + s - demand - c, 0)) (by simp [results, Try.results20, go_sem]) rfl ⟨?_, ?_⟩
    · rw [stepF_over h h']
    · exact (((Below.refl _ _).alloc (Nat.le_refl _) _).alloc (by simp) _)
  · have h : 0 ≤ level + s - demand := by assumption
    have h' : level + s - demand ≤ c := by assumption
    refine bodyPost_ret (v := stV (level + s - demand, 0, 0)) (by simp [results, Try.results20, go_sem]) rfl ⟨?_, ?_⟩
    · rw [stepF_ok h h']
    · exact (((Below.refl _ _).alloc (Nat.le_refl _) _).alloc (by simp) _)

def RunRes (c s l : Int) (xs : List Int) (w : World) (e : Ending) (w' : World) : Prop :=
  Below w.heap.size w w' ∧ ∃ v, FlatSl w' v xs.length (runCells c s l xs xs.length) ∧ (∀ b, v.ownBlock = some b → w.heap.size ≤ b) ∧ e = .returned v

/-- a box made ahead of a call, and filled behind it -/
theorem box_late {wr w' : World} {t : TypeId} {x y z x' y' z' : Value} (hb : Below (wr.alloc (.cells #[x, y, z] t)).heap.size (wr.alloc (.cells #[x, y, z] t)) w') :
    BoxC (((w'.setCell ⟨wr.heap.size, 0, none⟩ x').setCell ⟨wr.heap.size, 1, none⟩ y').setCell ⟨wr.heap.size, 2, none⟩ z') wr.heap.size t #[x', y', z'] ∧
      Below wr.heap.size wr (((w'.setCell ⟨wr.heap.size, 0, none⟩ x').setCell ⟨wr.heap.size, 1, none⟩ y').setCell ⟨wr.heap.size, 2, none⟩ z') := by
  have h1 := (BoxC.new wr t #[x, y, z]).grown hb
  have h2 := ((Below.refl wr.heap.size wr).alloc (Nat.le_refl _) (.cells #[x, y, z] t)).trans (hb.mono (by simp))
  exact ⟨((h1.set 0 _).set 1 _).set 2 _, ((h2.setCell (p := ⟨wr.heap.size, 0, none⟩) (Nat.le_refl _) _).setCell (p := ⟨wr.heap.size, 1, none⟩) (Nat.le_refl _) _).setCell (p := ⟨wr.heap.size, 2, none⟩) (Nat.le_refl _) _⟩

set_option maxRecDepth 100000 in
set_option maxHeartbeats 2000000 in
theorem run_any (c l s q : Int) (v : Value) (xs : List Int) (h : Okay c l s q xs) (w : World) (hv : IntSl w v xs) :
    Calls Try.prog 27 #[rV c l s q, v] w (RunRes c s l xs w) := by
  obtain ⟨a, cap, rfl⟩ := hv.len
  have hb := (Below.refl w.heap.size w).alloc (Nat.le_refl _) (.cells #[.int .i64 c, .int .i64 l, .int .i64 s, .int .i64 q] 28)
  have bR := BoxC.new w 28 #[.int .i64 c, .int .i64 l, .int .i64 s, .int .i64 q]
  have hn1 := h.n1
  obtain ⟨i0, hi, hz0, hz1, hz2⟩ := info_parts info40
  go_enter Try.func27, Try.ntmps27
  go_wp2
  generalize w.alloc (.cells #[.int .i64 c, .int .i64 l, .int .i64 s, .int .i64 q] 28) = W0 at hb bR ⊢
  go_loopw [5, 6, 7] (fun u lv i wr => ∃ k : Nat, k ≤ xs.length ∧ i = .int .i64 k ∧ lv = .int .i64 (lvAt c s l xs k) ∧ wr.ownsRow W0.heap.size 40 3 u k (runCells c s l xs k) ∧ Below W0.heap.size W0 wr) (fun _ _ i _ => xs.length - (intOf i).toNat)
  case atStart => exact ⟨0, by omega, rfl, rfl, World.ownsRow_nil _ _ _ _, Below.refl _ _⟩
  case round =>
    obtain ⟨k, hk, rfl, rfl, hrow, hB⟩ := hrel
    have hBs := hB.size
    by_cases hlt : k < xs.length
    · have tR := bR.grown hB
      have r0 := tR.cell 0 rfl
      have r1 := tR.cell 1 rfl
      have r2 := tR.cell 2 rfl
      have r3 := tR.cell 3 rfl
      obtain ⟨b, off, cap', he, hck⟩ := hv.at hlt
      cases he
      have hlc := lt_of_cell hck
      have tck := ((hB.cell (p := ⟨b, off + k, none⟩) (Nat.lt_of_lt_of_le hlc hb.size)).trans (hb.cell (p := ⟨b, off + k, none⟩) hlc)).trans hck
      have hr := h.lv k
      have hb0 := h.d0 k
      have hb1 := h.d1 k
      have hcc := h.c0; have hc1 := h.c1; have hs0 := h.s0; have hs1 := h.s1
      have hst : stepF c s (lvAt c s l xs k) (xs[k]?.getD 0) = stAt c s l xs k := rfl
      have hxk : (xs[k]?.getD 0) = xs[k] := by simp [hlt]
      rw [hxk] at hb0 hb1 tck hst
      generalize xs[k] = d at hb0 hb1 tck hst
      have hst2 := Lib.hid hst
      clear hxk hst hck hv
      go_upto_region 6 with (fail)
      go_cut [8] (fun p wx => ∃ Bx, p = .pointer (some ⟨Bx, 0, none⟩) ∧ wr.heap.size ≤ Bx ∧ BoxC wx Bx 40 #[.int .i64 (stAt c s l xs k).1, .int .i64 (stAt c s l xs k).2.1, .int .i64 (stAt c s l xs k).2.2] ∧ Below wr.heap.size wr wx)
      case first =>
        have hbA := (Below.refl wr.heap.size wr).alloc (Nat.le_refl _) (.cells #[.int .i64 0, .int .i64 0, .int .i64 0] 40)
        have a0 := (tR.grown hbA).cell 0 rfl
        have a1 := (tR.grown hbA).cell 1 rfl
        have a2 := (tR.grown hbA).cell 2 rfl
        have a3 := (tR.grown hbA).cell 3 rfl
        have ack := (hbA.cell (p := ⟨b, off + k, none⟩) (lt_of_cell tck)).trans tck
        go_region_with (go_at_call 20; refine (lstep_any _ _ _ _ _ _ _ (by omega) (by omega) (by omega) (by omega) (by omega) (by omega) (by omega) (by omega)).mono ?_; rintro e w' ⟨rfl, hb2⟩; rw [hst2.out]; have hb3 := below_undrew hb2; clear hb2; obtain ⟨hq1, hq2⟩ := bcell hb3)
        all_goals
          go_wp2_with fail
          go_meet
          case rel =>
            first
              | exact ⟨_, rfl, hb3.size, BoxC.new _ _ _, hb3.alloc hb3.size _⟩
              | exact ⟨_, rfl, Nat.le_refl _, (box_late hb3).1, (box_late hb3).2⟩
      case rest =>
        obtain ⟨Bx, rfl, hBx, bX, hbX⟩ := hcut
        have c0 := bX.cell 0 rfl
        have c1 := bX.cell 1 rfl
        have c2 := bX.cell 2 rfl
        have hrow2 : wc.ownsRow W0.heap.size 40 3 u5 k (runCells c s l xs k) := ownsRow_grown hrow hbX
        have hBc := hbX.size
        have hnb : some Bx ≠ u5.ownBlock := ownsRow_old hrow hBx
        have hlow := ownsRow_low hrow
        clear r0 r1 r2 r3 tck tR hrow
        go_wp2_with (at_builtin; refine wpList_append_own _ rfl _ _ 47 rfl W0.heap.size 40 i0 _ 3 24 Try.underlying47 hi hz0 hz1 hz2 rfl (by decide) _ _ _ rfl (hrow2.alloc _) ⟨wc.heap.size, 0, none⟩ 1 1 (stCells (stAt c s l xs k)) rfl rfl (cells_new _ _ _) (by simp [Value.oneCell', stCells]) (by unfold maxLen; omega) (by omega) (by simp; omega) ?_; intro v' w1' hown' hgrow hnil; obtain ⟨g', cap', rfl⟩ := ownsRow_succ hown'; have d0 := ((bX.alloc _).kept hgrow hnb).cell 0 rfl)
        go_roundw
        case rel =>
          refine ⟨k + 1, by omega, by go_num, rfl, ?_, (((hB.trans (hbX.mono hBs)).alloc (by omega) _).grown hgrow (by simp; omega) (fun i e => hlow i e))⟩
          have : runCells c s l xs (k + 1) = runCells c s l xs k ++ stCells (stAt c s l xs k) := by simp [runCells, List.range_succ]
          rw [this]
          exact hown'
        case measure => simp [intOf]; omega
    · obtain rfl : k = xs.length := by omega
      go_wp2
      go_ret
      exact ⟨hb.trans (hB.mono hb.size), _, FlatSl.of_owns hrow, fun b hb' => Nat.le_trans hb.size (ownsRow_low hrow b hb'), rfl⟩

theorem runCells_at (c s l : Int) (xs : List Int) (n k j : Nat) (hk : k < n) (hj : j < 3) : (runCells c s l xs n)[k * 3 + j]? = (stCells (stAt c s l xs k))[j]? := by
  unfold runCells
  induction n with
  | zero => omega
  | succ n ih =>
    have hlen : ∀ m, ((List.range m).flatMap fun i => stCells (stAt c s l xs i)).length = m * 3 := by
      intro m
      induction m with
      | zero => rfl
      | succ m ihm => rw [List.range_succ, List.flatMap_append, List.length_append, ihm]; simp [stCells]; omega
    rw [List.range_succ, List.flatMap_append]
    by_cases h : k < n
    · rw [List.getElem?_append_left (by rw [hlen]; omega)]
      exact ih h
    · obtain rfl : k = n := by omega
      rw [List.getElem?_append_right (by rw [hlen]; omega), hlen]
      simp [show k * 3 + j - k * 3 = j by omega]

/-- three cells of a state, by its index -/
theorem runCells_three {w : World} {b : Nat} {c s l : Int} {xs : List Int} {n : Nat} (h : ∀ j u, (runCells c s l xs n)[j]? = some u → w.cell? ⟨b, j, none⟩ = some u) {k : Nat} (hk : k < n) :
    w.cell? ⟨b, k * 3, none⟩ = some (.int .i64 (stAt c s l xs k).1) ∧ w.cell? ⟨b, k * 3 + 1, none⟩ = some (.int .i64 (stAt c s l xs k).2.1) ∧ w.cell? ⟨b, k * 3 + 2, none⟩ = some (.int .i64 (stAt c s l xs k).2.2) :=
  ⟨h _ _ (by have := runCells_at c s l xs n k 0 hk (by omega); simpa [stCells] using this), h _ _ (by rw [runCells_at c s l xs n k 1 hk (by omega)]; rfl), h _ _ (by rw [runCells_at c s l xs n k 2 hk (by omega)]; rfl)⟩

set_option maxRecDepth 100000 in
set_option maxHeartbeats 2000000 in
theorem misses_any (c l s q : Int) (v : Value) (xs : List Int) (h : Okay c l s q xs) (w : World) (hv : IntSl w v xs) :
    Calls Try.prog 15 #[rV c l s q, v] w fun e w' => e = .returned (.bool (failF c s l xs).2) ∧ Below w.heap.size w w' := by
  have hb := (Below.refl w.heap.size w).alloc (Nat.le_refl _) (.cells #[.int .i64 c, .int .i64 l, .int .i64 s, .int .i64 q] 28)
  have hrun := run_any c l s q v xs h _ (hv.mono hb)
  have hn1 := h.n1
  obtain ⟨a, cap, rfl⟩ := hv.len
  have hF : (failF c s l xs).2 = (List.range xs.length).any (missP c s l xs) := firstF_snd _ _
  obtain ⟨fb, hfb⟩ : ∃ fb, (failF c s l xs).2 = fb := ⟨_, rfl⟩
  rw [hfb] at hF ⊢
  have hF2 := Lib.hid hF
  clear hF hfb
  go_enter Try.func15, Try.ntmps15
  go_wp2_with fail
  refine hrun.mono ?_
  rintro e w1 ⟨hb1, v, hfl, _, rfl⟩
  have hB := hb.trans (hb1.mono hb.size)
  clear hrun hb1
  rcases hfl with ⟨rfl, hx, _⟩ | ⟨b, cap', rfl, hbl, hc⟩
  · have hx0 : xs.length = 0 := hx
    have hfb : fb = false := by rw [hF2.out, hx0]; rfl
    subst hfb
    go_wp2
    go_loopw [11] (fun i wr => i = .int .i64 0 ∧ wr = w1) (fun _ _ => 0)
    case atStart => exact ⟨rfl, rfl⟩
    case round =>
      obtain ⟨rfl, rfl⟩ := hrel
      go_wp2
      go_ret
      exact ⟨rfl, hB⟩
  · go_wp2
    go_loopw [11] (fun i wr => ∃ k : Nat, k ≤ xs.length ∧ i = .int .i64 k ∧ (∀ j, j < k → missP c s l xs j = false) ∧ Below w1.heap.size w1 wr) (fun i _ => xs.length - (intOf i).toNat)
    case atStart => exact ⟨0, by omega, rfl, fun j hj => by omega, Below.refl _ _⟩
    case round =>
      obtain ⟨k, hk, rfl, hno, hBr⟩ := hrel
      by_cases hlt : k < xs.length
      · obtain ⟨c0, c1, c2⟩ := runCells_three hc hlt
        have t0 := (hBr.cell (p := ⟨b, k * 3, none⟩) hbl).trans c0
        have t1 := (hBr.cell (p := ⟨b, k * 3 + 1, none⟩) hbl).trans c1
        have t2 := (hBr.cell (p := ⟨b, k * 3 + 2, none⟩) hbl).trans c2
        have hno2 := Lib.hid hno
        clear c0 c1 c2 hc hno
        by_cases hm : 0 < (stAt c s l xs k).2.2
        · have hfb : fb = true := by
            rw [hF2.out]
            exact List.any_eq_true.2 ⟨k, by simpa using hlt, by simp [missP, hm]⟩
          subst hfb
          go_wp2
          go_ret
          exact ⟨rfl, hB.trans ((hBr.alloc hBr.size _).mono hB.size)⟩
        · have hmf : missP c s l xs k = false := by simp [missP, hm]
          have hmf2 := Lib.hid hmf
          have hm2 : (stAt c s l xs k).2.2 ≤ 0 := by omega
          clear hmf
          go_wp2
          go_roundw
          case rel =>
            refine ⟨k + 1, by omega, by go_num, fun j hj => ?_, hBr.alloc hBr.size _⟩
            by_cases hjk : j = k
            · subst hjk; exact hmf2.out
            · exact hno2.out j (by omega)
          case measure => simp [intOf]; omega
      · obtain rfl : k = xs.length := by omega
        have hfb : fb = false := by
          rw [hF2.out]
          exact List.any_eq_false.2 (fun x hx => by simp [hno x (by simpa using hx)])
        subst hfb
        clear hno
        go_wp2
        go_ret
        exact ⟨rfl, hB.trans (hBr.mono hB.size)⟩
theorem miss_iff (c s l : Int) (xs : List Int) (k : Nat) : missP c s l xs k = decide (lvAt c s l xs k + s - xs[k]?.getD 0 < 0) := by
  have h : stAt c s l xs k = stepF c s (lvAt c s l xs k) (xs[k]?.getD 0) := rfl
  unfold missP
  rw [h]
  generalize lvAt c s l xs k = a
  generalize xs[k]?.getD 0 = d
  by_cases hn : a + s - d < 0
  · rw [stepF_neg hn, Bool.eq_iff_iff]; simp
  · unfold stepF
    simp [hn]

end Go.Proofs.Ytbflocamicebhaa
