/- The walk of SwellGlides, and the plain law behind it. Conditions: lists of at most 2^63 elements. -/
import Derived.Test.YtbfldhmpgealpaaL8
namespace Go.Proofs.Ytbfldhmpgealpaa
open Go.RowKit

theorem stageF_k {l : List Mv} {tick : Int} {k : Nat} (hk : k ≤ l.length) (h : ∀ j, j < k → (mv l j).t ≤ tick) (hp : k < l.length → tick < (mv l k).t) : stageF l tick = lastK (outAt l tick) k := by
  rcases Nat.lt_or_ge k l.length with h1 | h1
  · exact stageF_at h1 h (hp h1)
  · obtain rfl : k = l.length := by omega
    exact stageF_end h
theorem count_ex (l : List Mv) (tick : Int) : ∀ n, n ≤ l.length → (∀ j, j < n → (mv l j).t ≤ tick) → ∃ k, n ≤ k ∧ k ≤ l.length ∧ (∀ j, j < k → (mv l j).t ≤ tick) ∧ (k < l.length → tick < (mv l k).t) := by
  intro n hn h
  obtain ⟨r, hr⟩ : ∃ r, r = l.length - n := ⟨_, rfl⟩
  induction r generalizing n with
  | zero => exact ⟨n, by omega, hn, h, fun h1 => by omega⟩
  | succ r ih =>
    by_cases hp : tick < (mv l n).t
    · exact ⟨n, by omega, hn, h, fun _ => hp⟩
    · obtain ⟨k, h1, h2, h3, h4⟩ := ih (n + 1) (by omega) (fun j hj => by
        rcases Nat.lt_or_ge j n with h5 | h5
        · exact h j h5
        · obtain rfl : j = n := by omega
          omega) (by omega)
      exact ⟨k, by omega, h2, h3, h4⟩
theorem div_step {x p : Int} (hp : 1 ≤ p) : x / p ≤ (x + 1) / p ∧ (x + 1) / p ≤ x / p + 1 := by
  have h1 := Int.mul_ediv_add_emod x p
  have h2 := Int.emod_nonneg x (show p ≠ 0 by omega)
  have h3 := Int.emod_lt_of_pos x (show 0 < p by omega)
  rw [Int.mul_comm] at h1
  constructor
  · rw [Int.le_ediv_iff_mul_le (by omega)]; omega
  · have : (x + 1) / p < x / p + 2 := by
      rw [Int.ediv_lt_iff_lt_mul (by omega), Int.add_mul]
      omega
    omega
theorem after_step {m : Mv} {st tick : Int} (hp : 1 ≤ m.p) : absI (afterF m st tick - afterF m st (tick + 1)) ≤ 1 := by
  have := div_step (x := tick - m.t) (p := m.p) hp
  rw [show tick - m.t + 1 = tick + 1 - m.t by omega] at this
  unfold afterF absI
  generalize (tick - m.t) / m.p = q at this
  generalize (tick + 1 - m.t) / m.p = q' at this
  split <;> omega
theorem after_now {m : Mv} {st : Int} : afterF m st m.t = st := by
  unfold afterF
  rw [show m.t - m.t = 0 by omega, Int.zero_ediv]
  split <;> omega
theorem glide {N : Int} {l : List Mv} (h : MvOk N l) (tick : Int) : absI (stageF l tick - stageF l (tick + 1)) ≤ 1 := by
  obtain ⟨k, _, hk, h1, h2⟩ := count_ex l tick 0 (by omega) (fun j hj => by omega)
  have hr : ∀ j, j < l.length → 1 ≤ (mv l j).p := fun j hj => by have := h.r j hj; unfold MvR at this; omega
  rw [stageF_k hk h1 h2]
  by_cases h3 : k < l.length ∧ (mv l k).t = tick + 1
  · obtain ⟨h4, h5⟩ := h3
    rw [stageF_k (k := k + 1) (by omega) (fun j hj => by
      rcases Nat.lt_or_ge j k with h6 | h6
      · have := h1 j h6; omega
      · obtain rfl : j = k := by omega
        omega) (fun h6 => by have := h.o k h6; omega)]
    have e : lastK (outAt l (tick + 1)) (k + 1) = stgAt l k := by
      show afterF (mv l k) (stgAt l k) (tick + 1) = stgAt l k
      rw [← h5, after_now]
    rw [e]
    unfold lastK
    split
    · rename_i h6; subst h6; simp [stgAt, absI]
    · obtain ⟨j, rfl⟩ : ∃ j, k = j + 1 := ⟨k - 1, by omega⟩
      show absI (afterF (mv l j) (stgAt l j) tick - afterF (mv l j) (stgAt l j) (mv l (j + 1)).t) ≤ 1
      rw [h5]
      exact after_step (hr j (by omega))
  · rw [stageF_k (k := k) hk (fun j hj => by have := h1 j hj; omega) (fun h4 => by
      have := h2 h4
      have : (mv l k).t ≠ tick + 1 := fun e => h3 ⟨h4, e⟩
      omega)]
    unfold lastK
    split
    · simp [absI]
    · exact after_step (hr (k - 1) (by omega))
theorem arrived {N : Int} {l : List Mv} (h : MvOk N l) {tick : Int} (ha : arrivalF l ≤ tick) : stageF l tick = if l.length = 0 then 0 else (mv l (l.length - 1)).s := by
  by_cases h0 : l.length = 0
  · rw [if_pos h0, stageF_end (fun j hj => by omega)]
    unfold lastK
    rw [if_pos h0]
  · rw [if_neg h0]
    unfold arrivalF lastK arrAt at ha
    rw [if_neg h0] at ha
    have hr := h.r (l.length - 1) (by omega)
    unfold MvR at hr
    have hab := @absI_bd ((mv l (l.length - 1)).s - stgAt l (l.length - 1))
    have hge : 0 ≤ absI ((mv l (l.length - 1)).s - stgAt l (l.length - 1)) * (mv l (l.length - 1)).p := Int.mul_nonneg hab.1 (by omega)
    rw [stageF_end (fun j hj => by
      rcases Nat.lt_or_ge j (l.length - 1) with h1 | h1
      · have := h.lt j (l.length - 1) h1 (by omega); omega
      · obtain rfl : j = l.length - 1 := by omega
        omega)]
    unfold lastK
    rw [if_neg h0]
    unfold outAt afterF
    have hq : absI ((mv l (l.length - 1)).s - stgAt l (l.length - 1)) ≤ (tick - (mv l (l.length - 1)).t) / (mv l (l.length - 1)).p := by
      rw [Int.le_ediv_iff_mul_le (by omega)]
      omega
    generalize (tick - (mv l (l.length - 1)).t) / (mv l (l.length - 1)).p = x at hq
    split <;> omega

set_option maxRecDepth 100000 in
set_option maxHeartbeats 4000000 in
theorem law9_any (v : Value) (ls : List Int) (v2 : Value) (l : List Mv) (tick : Int) (w : World) (hv : NumSl .i64 w v ls) (hm : ls.length ≤ 9223372036854775807) (hv2 : MvSl w v2 l) (hl : l.length ≤ 9223372036854775807) :
    Calls Try.prog 9 #[.agg #[v], v2, .int .i64 tick] w fun e w' => e = .returned (.bool true) ∧ Below w.heap.size w w' := by
  have hB := (Below.refl w.heap.size w).alloc (Nat.le_refl _) (.cells #[v] 49)
  have bP := BoxC.new w 49 #[v]
  have hvw := hv.mono hB
  have hmw := hv2.mono hB
  obtain ⟨a, cap, rfl⟩ := hv.len
  obtain ⟨a2, cap2, rfl⟩ := hv2.len
  clear hv hv2
  by_cases h66 : 66 < ls.length
  · go_enter Try.func9, Try.ntmps9
    go_wp2_with fail
    refine (known_any _).mono ?_
    rintro e w1 ⟨rfl, hb1⟩
    have bP1 := bP.grown hb1
    have hB1 := hB.trans (hb1.mono hB.size)
    have hv1 := hvw.mono hb1
    have hm1 := hmw.mono hb1
    clear bP hB hvw hmw hb1
    have c0 := bP1.cell 0 rfl
    go_wp2_with fail
    refine (known_any _).mono ?_
    rintro e w2 ⟨rfl, hb2⟩
    have bP2 := bP1.grown hb2
    have hB2 := hB1.trans (hb2.mono hB1.size)
    have hv2 := hv1.mono hb2
    have hm2 := hm1.mono hb2
    clear bP1 hB1 hv1 hm1 hb2 c0
    have c0 := bP2.cell 0 rfl
    go_wp2
    go_ret
    exact ⟨rfl, hB2⟩
  · by_cases h8 : 8 < l.length
    · go_enter Try.func9, Try.ntmps9
      go_wp2_with fail
      refine (known_any _).mono ?_
      rintro e w1 ⟨rfl, hb1⟩
      have bP1 := bP.grown hb1
      have hB1 := hB.trans (hb1.mono hB.size)
      have hv1 := hvw.mono hb1
      have hm1 := hmw.mono hb1
      clear bP hB hvw hmw hb1
      have c0 := bP1.cell 0 rfl
      go_wp2_with fail
      refine (known_any _).mono ?_
      rintro e w2 ⟨rfl, hb2⟩
      have bP2 := bP1.grown hb2
      have hB2 := hB1.trans (hb2.mono hB1.size)
      have hv2 := hv1.mono hb2
      have hm2 := hm1.mono hb2
      clear bP1 hB1 hv1 hm1 hb2 c0
      have c0 := bP2.cell 0 rfl
      go_wp2
      go_ret
      exact ⟨rfl, hB2⟩
    · have hls : ls.length ≤ 66 := by omega
      have hll : l.length ≤ 8 := by omega
      obtain ⟨d, hd⟩ : ∃ d, chkF ls = d := ⟨_, rfl⟩
      obtain ⟨q, hq⟩ : ∃ q, movesF ls.length l = q := ⟨_, rfl⟩
      have hcm : cmF ls l = if d ≠ 0 then d else q := by unfold cmF; rw [hd, hq]
      have hC1 := fun W h => check_any (.slice a ls.length cap) ls W h (by omega)
      have hC3 := fun W h1 h2 => moves_any (.slice a ls.length cap) ls (.slice a2 l.length cap2) l W h1 (by omega) h2 (by omega)
      rw [hd] at hC1
      rw [hq] at hC3
      replace hC1 := Lib.hid hC1; replace hC3 := Lib.hid hC3
      clear hm hl h66 h8
      by_cases hd0 : d = 0
      · subst hd0
        by_cases h0 : q = 0
        · subst h0
          rw [if_neg (by simp)] at hcm
          obtain ⟨_, hbok, hok⟩ := cm_ok hcm
          clear hq hd
          rcases (by omega : tick < 0 ∨ (0 ≤ tick ∧ 1000000000 < tick) ∨ (0 ≤ tick ∧ tick ≤ 1000000000)) with ht | ⟨ht, ht2⟩ | ⟨ht, ht2⟩
          · go_enter Try.func9, Try.ntmps9
            go_wp2_with fail
            refine (known_any _).mono ?_
            rintro e w1 ⟨rfl, hb1⟩
            have bP1 := bP.grown hb1
            have hB1 := hB.trans (hb1.mono hB.size)
            have hv1 := hvw.mono hb1
            have hm1 := hmw.mono hb1
            clear bP hB hvw hmw hb1
            have c0 := bP1.cell 0 rfl
            go_wp2_with fail
            refine (hC1.out _ hv1).mono ?_
            rintro e w2 ⟨rfl, hb2⟩
            have bP2 := bP1.grown hb2
            have hB2 := hB1.trans (hb2.mono hB1.size)
            have hv2 := hv1.mono hb2
            have hm2 := hm1.mono hb2
            clear bP1 hB1 hv1 hm1 hb2 c0
            have c0 := bP2.cell 0 rfl
            go_wp2_with fail
            refine (hC3.out _ hv2 hm2).mono ?_
            rintro e w3 ⟨rfl, hb3⟩
            have bP3 := bP2.grown hb3
            have hB3 := hB2.trans (hb3.mono hB2.size)
            have hv3 := hv2.mono hb3
            have hm3 := hm2.mono hb3
            clear bP2 hB2 hv2 hm2 hb3 c0
            have c0 := bP3.cell 0 rfl
            go_wp2_with fail
            refine (known_any _).mono ?_
            rintro e w4 ⟨rfl, hb4⟩
            have bP4 := bP3.grown hb4
            have hB4 := hB3.trans (hb4.mono hB3.size)
            have hv4 := hv3.mono hb4
            have hm4 := hm3.mono hb4
            clear bP3 hB3 hv3 hm3 hb4 c0
            have c0 := bP4.cell 0 rfl
            go_wp2
            go_ret
            exact ⟨rfl, hB4⟩
          · go_enter Try.func9, Try.ntmps9
            go_wp2_with fail
            refine (known_any _).mono ?_
            rintro e w1 ⟨rfl, hb1⟩
            have bP1 := bP.grown hb1
            have hB1 := hB.trans (hb1.mono hB.size)
            have hv1 := hvw.mono hb1
            have hm1 := hmw.mono hb1
            clear bP hB hvw hmw hb1
            have c0 := bP1.cell 0 rfl
            go_wp2_with fail
            refine (hC1.out _ hv1).mono ?_
            rintro e w2 ⟨rfl, hb2⟩
            have bP2 := bP1.grown hb2
            have hB2 := hB1.trans (hb2.mono hB1.size)
            have hv2 := hv1.mono hb2
            have hm2 := hm1.mono hb2
            clear bP1 hB1 hv1 hm1 hb2 c0
            have c0 := bP2.cell 0 rfl
            go_wp2_with fail
            refine (hC3.out _ hv2 hm2).mono ?_
            rintro e w3 ⟨rfl, hb3⟩
            have bP3 := bP2.grown hb3
            have hB3 := hB2.trans (hb3.mono hB2.size)
            have hv3 := hv2.mono hb3
            have hm3 := hm2.mono hb3
            clear bP2 hB2 hv2 hm2 hb3 c0
            have c0 := bP3.cell 0 rfl
            go_wp2_with fail
            refine (known_any _).mono ?_
            rintro e w4 ⟨rfl, hb4⟩
            have bP4 := bP3.grown hb4
            have hB4 := hB3.trans (hb4.mono hB3.size)
            have hv4 := hv3.mono hb4
            have hm4 := hm3.mono hb4
            clear bP3 hB3 hv3 hm3 hb4 c0
            have c0 := bP4.cell 0 rfl
            go_wp2
            go_ret
            exact ⟨rfl, hB4⟩
          · have hS1 := fun W h1 h2 => Stage_any (.slice a ls.length cap) ls (.slice a2 l.length cap2) l tick W h1 (by omega) h2 (by omega)
            have hS2 := fun W h1 h2 => Stage_any (.slice a ls.length cap) ls (.slice a2 l.length cap2) l (tick + 1) W h1 (by omega) h2 (by omega)
            have hA := fun W h1 h2 => Arrival_any (.slice a ls.length cap) ls (.slice a2 l.length cap2) l W h1 (by omega) h2 (by omega)
            have e1 : StageF ls l tick = (stageF l tick, 0) := by unfold StageF; rw [hcm, if_neg (by simp), if_neg (by omega)]
            have e2 : StageF ls l (tick + 1) = (stageF l (tick + 1), 0) := by unfold StageF; rw [hcm, if_neg (by simp), if_neg (by omega)]
            have e3 : ArrivalF ls l = (arrivalF l, 0) := by unfold ArrivalF; rw [hcm, if_neg (by simp)]
            rw [e1] at hS1
            rw [e2] at hS2
            rw [e3] at hA
            have hgl := glide hok tick
            have har := fun h => arrived hok (tick := tick) h
            have sb : ∀ t, 0 ≤ t → t ≤ 2000000000 → 0 ≤ stageF l t ∧ stageF l t ≤ 64 := fun t h1 h2 => by
              obtain ⟨k, _, hk, g1, g2⟩ := count_ex l t 0 (by omega) (fun j hj => by omega)
              rw [stageF_k hk g1 g2]
              unfold lastK
              split
              · omega
              · have hr := hok.r (k - 1) (by omega)
                have hs := stgAt_bd hok (k - 1) (by omega)
                have hn := hok.n1
                have := g1 (k - 1) (by omega)
                unfold MvR at hr
                exact afterF_bd (m := mv l (k - 1)) (by omega) (by omega) hs.1 (by omega) (by omega) (by omega)
            have sb1 := sb tick ht (by omega)
            have sb2 := sb (tick + 1) (by omega) (by omega)
            clear e1 e2 e3 sb hcm
            generalize stageF l tick = X at *
            generalize stageF l (tick + 1) = Y at *
            generalize arrivalF l = A at *
            obtain ⟨M, hM⟩ : ∃ M, absI (X - Y) = M := ⟨_, rfl⟩
            rw [hM] at hgl
            have hds := fun W => distance_any X Y W (by omega) (by omega) (by omega) (by omega)
            rw [hM] at hds
            have hM2 : decide (1 < M) = false := by simpa using hgl
            replace hS1 := Lib.hid hS1; replace hS2 := Lib.hid hS2; replace hA := Lib.hid hA; replace hds := Lib.hid hds; replace har := Lib.hid har
            clear hM
            go_enter Try.func9, Try.ntmps9
            go_wp2_with fail
            refine (known_any _).mono ?_
            rintro e w1 ⟨rfl, hb1⟩
            have bP1 := bP.grown hb1
            have hB1 := hB.trans (hb1.mono hB.size)
            have hv1 := hvw.mono hb1
            have hm1 := hmw.mono hb1
            clear bP hB hvw hmw hb1
            have c0 := bP1.cell 0 rfl
            go_wp2_with fail
            refine (hC1.out _ hv1).mono ?_
            rintro e w2 ⟨rfl, hb2⟩
            have bP2 := bP1.grown hb2
            have hB2 := hB1.trans (hb2.mono hB1.size)
            have hv2 := hv1.mono hb2
            have hm2 := hm1.mono hb2
            clear bP1 hB1 hv1 hm1 hb2 c0
            have c0 := bP2.cell 0 rfl
            go_wp2_with fail
            refine (hC3.out _ hv2 hm2).mono ?_
            rintro e w3 ⟨rfl, hb3⟩
            have bP3 := bP2.grown hb3
            have hB3 := hB2.trans (hb3.mono hB2.size)
            have hv3 := hv2.mono hb3
            have hm3 := hm2.mono hb3
            clear bP2 hB2 hv2 hm2 hb3 c0
            have c0 := bP3.cell 0 rfl
            go_wp2_with fail
            refine (hS1.out _ hv3 hm3).mono ?_
            rintro e w4 ⟨rfl, hb4⟩
            have bP4 := bP3.grown hb4
            have hB4 := hB3.trans (hb4.mono hB3.size)
            have hv4 := hv3.mono hb4
            have hm4 := hm3.mono hb4
            clear bP3 hB3 hv3 hm3 hb4 c0
            have c0 := bP4.cell 0 rfl
            go_wp2_with fail
            refine (hS2.out _ hv4 hm4).mono ?_
            rintro e w5 ⟨rfl, hb5⟩
            have bP5 := bP4.grown hb5
            have hB5 := hB4.trans (hb5.mono hB4.size)
            have hv5 := hv4.mono hb5
            have hm5 := hm4.mono hb5
            clear bP4 hB4 hv4 hm4 hb5 c0
            have c0 := bP5.cell 0 rfl
            go_wp2_with fail
            refine (hA.out _ hv5 hm5).mono ?_
            rintro e w6 ⟨rfl, hb6⟩
            have bP6 := bP5.grown hb6
            have hB6 := hB5.trans (hb6.mono hB5.size)
            have hv6 := hv5.mono hb6
            have hm6 := hm5.mono hb6
            clear bP5 hB5 hv5 hm5 hb6 c0
            have c0 := bP6.cell 0 rfl
            go_wp2_with fail
            refine (hds.out _).mono ?_
            rintro e w7 ⟨rfl, rfl⟩
            by_cases hk : l.length = 0
            · have har2 : A ≤ tick → X = 0 := fun h => by have := har.out h; rwa [if_pos hk] at this
              have hk2 : (l.length : Int) ≤ 0 := by omega
              replace hk := Lib.hid hk
              by_cases hA2 : tick < A
              · clear har2
                go_wp2
                go_ret
                exact ⟨rfl, hB6⟩
              · obtain rfl := har2 (by omega)
                clear har2
                go_wp2
                go_ret
                exact ⟨rfl, hB6⟩
            · have hk1 : l.length - 1 < l.length := by omega
              have har2 : A ≤ tick → X = (mv l (l.length - 1)).s := fun h => by have := har.out h; rwa [if_neg hk] at this
              have g1 : (1 : Int) ≤ (l.length : Int) := by omega
              have g3 : ((l.length : Int) - 1).toNat = l.length - 1 := by omega
              have g4 : (l.length : Int) - 1 < (l.length : Int) := by omega
              obtain ⟨b, off, cap', he, hc⟩ := hm6.at hk1
              cases he
              have k2 := (hc _ hk1).2.1
              generalize (mv l (l.length - 1)).s = z at k2 har2
              replace hk := Lib.hid hk
              clear hc
              by_cases hA2 : tick < A
              · clear har2
                go_wp2
                go_ret
                exact ⟨rfl, hB6⟩
              · obtain rfl := har2 (by omega)
                have hxx := (beq_self_int X).1
                clear har2
                go_wp2
                go_ret
                exact ⟨rfl, hB6⟩
        · obtain ⟨g1, g2⟩ := neq_of h0
          clear hq hd hcm h0
          go_enter Try.func9, Try.ntmps9
          go_wp2_with fail
          refine (known_any _).mono ?_
          rintro e w1 ⟨rfl, hb1⟩
          have bP1 := bP.grown hb1
          have hB1 := hB.trans (hb1.mono hB.size)
          have hv1 := hvw.mono hb1
          have hm1 := hmw.mono hb1
          clear bP hB hvw hmw hb1
          have c0 := bP1.cell 0 rfl
          go_wp2_with fail
          refine (hC1.out _ hv1).mono ?_
          rintro e w2 ⟨rfl, hb2⟩
          have bP2 := bP1.grown hb2
          have hB2 := hB1.trans (hb2.mono hB1.size)
          have hv2 := hv1.mono hb2
          have hm2 := hm1.mono hb2
          clear bP1 hB1 hv1 hm1 hb2 c0
          have c0 := bP2.cell 0 rfl
          go_wp2_with fail
          refine (hC3.out _ hv2 hm2).mono ?_
          rintro e w3 ⟨rfl, hb3⟩
          have bP3 := bP2.grown hb3
          have hB3 := hB2.trans (hb3.mono hB2.size)
          have hv3 := hv2.mono hb3
          have hm3 := hm2.mono hb3
          clear bP2 hB2 hv2 hm2 hb3 c0
          have c0 := bP3.cell 0 rfl
          go_wp2_with fail
          refine (known_any _).mono ?_
          rintro e w4 ⟨rfl, hb4⟩
          have bP4 := bP3.grown hb4
          have hB4 := hB3.trans (hb4.mono hB3.size)
          have hv4 := hv3.mono hb4
          have hm4 := hm3.mono hb4
          clear bP3 hB3 hv3 hm3 hb4 c0
          have c0 := bP4.cell 0 rfl
          go_wp2
          go_ret
          exact ⟨rfl, hB4⟩
      · obtain ⟨g1, g2⟩ := neq_of hd0
        clear hq hd hcm hd0
        go_enter Try.func9, Try.ntmps9
        go_wp2_with fail
        refine (known_any _).mono ?_
        rintro e w1 ⟨rfl, hb1⟩
        have bP1 := bP.grown hb1
        have hB1 := hB.trans (hb1.mono hB.size)
        have hv1 := hvw.mono hb1
        have hm1 := hmw.mono hb1
        clear bP hB hvw hmw hb1
        have c0 := bP1.cell 0 rfl
        go_wp2_with fail
        refine (hC1.out _ hv1).mono ?_
        rintro e w2 ⟨rfl, hb2⟩
        have bP2 := bP1.grown hb2
        have hB2 := hB1.trans (hb2.mono hB1.size)
        have hv2 := hv1.mono hb2
        have hm2 := hm1.mono hb2
        clear bP1 hB1 hv1 hm1 hb2 c0
        have c0 := bP2.cell 0 rfl
        go_wp2_with fail
        refine (known_any _).mono ?_
        rintro e w3 ⟨rfl, hb3⟩
        have bP3 := bP2.grown hb3
        have hB3 := hB2.trans (hb3.mono hB2.size)
        have hv3 := hv2.mono hb3
        have hm3 := hm2.mono hb3
        clear bP2 hB2 hv2 hm2 hb3 c0
        have c0 := bP3.cell 0 rfl
        go_wp2
        go_ret
        exact ⟨rfl, hB3⟩
end Go.Proofs.Ytbfldhmpgealpaa
