/- The contract of the model's possible. Conditions: consoles of plans. -/
import Derived.Test.YtgnamahdchefnaaW8
namespace Go.Proofs.Ytgnamahdchefnaa
open Go.RowKit Go.Shelf

set_option linter.unusedSimpArgs false in
set_option maxRecDepth 100000 in
set_option maxHeartbeats 4000000 in
theorem lawPossible_any (x y xd xg xv xp : Value) (C : Con) (st : St) (k d i : Int) (w : World) (hC : C.Ok) (hr : ConR w x y C) (hst : StR w xd xg xv xp st) :
    Calls Try.prog 17 #[conV x y C.co C.ge C.lv, stV xd st.d.c st.d.o st.l xg xv xp, evV k d i] w (IntBelow (posF C st k d i) w) := by
  have hB := (((Below.refl w.heap.size w).alloc (Nat.le_refl _) (.cells #[x, .int .i64 C.co, .int .i64 C.ge, y, .int .i64 C.lv] 32)).alloc (by simp) (.cells #[xd, .int .u64 st.d.c, .int .u64 st.d.o, .int .i64 st.l, xg, xv, xp] 42)).alloc (by simp; omega) (.cells #[.int .i64 k, .int .i64 d, .int .i64 i] 28)
  have hr1 := hr.mono hB
  obtain ⟨a, cap, rfl⟩ := hr.s.len
  obtain ⟨a2, cap2, rfl⟩ := hr.d.lenV hC.dl
  obtain ⟨a3, cap3, rfl⟩ := hst.d.len
  obtain ⟨a4, cap4, rfl⟩ := SlOf.len hst.g
  obtain ⟨a5, cap5, rfl⟩ := SlOf.len hst.v
  obtain ⟨a6, cap6, rfl⟩ := hst.p.len
  have hn := hC.n
  have hdl := hC.dl
  replace hdl := Lib.hid hdl
  clear hr hst
  obtain ⟨F, hF⟩ : ∃ F, posF C st k d i = F := ⟨_, rfl⟩
  rw [hF]
  by_cases hd : 0 ≤ d ∧ d < C.s.length
  · obtain ⟨n, rfl⟩ : ∃ n : Nat, d = n := ⟨d.toNat, by omega⟩
    have hnl : n < C.s.length := by omega
    obtain ⟨b, off, cap', he, hc⟩ := hr1.s.at hnl
    cases he
    obtain ⟨b2, off2, cap2', he2, hc2⟩ := hr1.d.atN hdl.out hnl
    cases he2
    have cs := hc n hnl
    have cd := hc2 n hnl
    unfold posF at hF
    simp only [Int.toNat_natCast, hd.1, hd.2, true_and] at hF
    generalize nth C.s n = zs at cs hF
    generalize nth C.d n = zd at cd hF
    replace hF := Lib.hid hF
    have hd2 := hd.2
    have hd3 : decide ((n : Int) < (C.s.length : Int)) = true := decide_eq_true hd.2
    have hd4 : decide (n < C.s.length) = true := decide_eq_true hnl
    have hin := fun W => in42_any (n : Int) (C.s.length : Int) W
    rw [inB_true hd] at hin
    replace hin := Lib.hid hin
    clear hd hc hc2 hr1 hC
    by_cases k1 : k = 1
    · subst k1
      go_enter Try.func17, Try.ntmps17
      go_wp2_with fail
      refine (hin.out _).mono ?_
      rintro e w' ⟨rfl, rfl⟩
      go_wp2_with fail
      go_quiet ((go_at_call 42; exact quiet_left (in42_any _ _ _)))
      go_wp2
      all_goals
        go_ret
        refine ⟨ret_int ?_, by first | exact hB | exact below_drewN hB _⟩
        have h := hF.out
        rw [← h]
        clear h hF hB cs cd hin
        try simp only [inB, Bool.and_eq_true, Bool.and_eq_false_iff, Bool.not_eq_true', Bool.not_eq_false', beq_iff_eq, beq_eq_false_iff_ne, decide_eq_true_eq, decide_eq_false_iff_not, ne_eq] at *
        repeat' split
        all_goals first | omega | exact absurd trivial (by assumption) | exact absurd (Or.inl trivial) (by assumption) | exact absurd (Or.inr trivial) (by assumption)
    · by_cases k5 : k = 5
      · subst k5
        go_enter Try.func17, Try.ntmps17
        go_wp2_with fail
        refine (hin.out _).mono ?_
        rintro e w' ⟨rfl, rfl⟩
        go_wp2_with fail
        go_quiet ((go_at_call 42; exact quiet_left (in42_any _ _ _)))
        go_wp2
        all_goals
          go_ret
          refine ⟨ret_int ?_, by first | exact hB | exact below_drewN hB _⟩
          have h := hF.out
          rw [← h]
          clear h hF hB cs cd hin
          try simp only [inB, Bool.and_eq_true, Bool.and_eq_false_iff, Bool.not_eq_true', Bool.not_eq_false', beq_iff_eq, beq_eq_false_iff_ne, decide_eq_true_eq, decide_eq_false_iff_not, ne_eq] at *
          repeat' split
          all_goals first | omega | exact absurd trivial (by assumption) | exact absurd (Or.inl trivial) (by assumption) | exact absurd (Or.inr trivial) (by assumption)
      · by_cases k7 : k = 7
        · subst k7
          go_enter Try.func17, Try.ntmps17
          go_wp2_with fail
          refine (hin.out _).mono ?_
          rintro e w' ⟨rfl, rfl⟩
          go_wp2_with fail
          go_quiet ((go_at_call 42; exact quiet_left (in42_any _ _ _)))
          go_wp2
          all_goals
            go_ret
            refine ⟨ret_int ?_, by first | exact hB | exact below_drewN hB _⟩
            have h := hF.out
            rw [← h]
            clear h hF hB cs cd hin
            try simp only [inB, Bool.and_eq_true, Bool.and_eq_false_iff, Bool.not_eq_true', Bool.not_eq_false', beq_iff_eq, beq_eq_false_iff_ne, decide_eq_true_eq, decide_eq_false_iff_not, ne_eq] at *
            repeat' split
            all_goals first | omega | exact absurd trivial (by assumption) | exact absurd (Or.inl trivial) (by assumption) | exact absurd (Or.inr trivial) (by assumption)
        · have n1 : (k == 1) = false := by simpa using k1
          have n5 : (k == 5) = false := by simpa using k5
          have n7 : (k == 7) = false := by simpa using k7
          clear k1 k5 k7
          go_enter Try.func17, Try.ntmps17
          go_wp2_with (refine (in42_any _ _ _).mono ?_; rintro e w' ⟨rfl, rfl⟩)
          all_goals
            go_ret
            refine ⟨ret_int ?_, by first | exact hB | exact below_drewN hB _⟩
            have h := hF.out
            rw [← h]
            clear h hF hB cs cd hin
            try simp only [inB, Bool.and_eq_true, Bool.and_eq_false_iff, Bool.not_eq_true', Bool.not_eq_false', beq_iff_eq, beq_eq_false_iff_ne, decide_eq_true_eq, decide_eq_false_iff_not, ne_eq] at *
            repeat' split
            all_goals first | omega | exact absurd trivial (by assumption) | exact absurd (Or.inl trivial) (by assumption) | exact absurd (Or.inr trivial) (by assumption)
  · unfold posF at hF
    generalize nth C.s d.toNat = zs at hF
    generalize nth C.d d.toNat = zd at hF
    replace hF := Lib.hid hF
    have hin := fun W => in42_any d (C.s.length : Int) W
    rw [inB_false hd] at hin
    replace hin := Lib.hid hin
    have hd2 : d < 0 ∨ (C.s.length : Int) ≤ d := by omega
    clear hr1 hC hd
    by_cases k1 : k = 1
    · subst k1
      go_enter Try.func17, Try.ntmps17
      go_wp2_with fail
      refine (hin.out _).mono ?_
      rintro e w' ⟨rfl, rfl⟩
      go_wp2_with fail
      go_quiet (fail)
      go_wp2
      all_goals
        go_ret
        refine ⟨ret_int ?_, by first | exact hB | exact below_drewN hB _⟩
        have h := hF.out
        rw [← h]
        clear h hF hB hin
        try simp only [inB, Bool.and_eq_true, Bool.and_eq_false_iff, Bool.not_eq_true', Bool.not_eq_false', beq_iff_eq, beq_eq_false_iff_ne, decide_eq_true_eq, decide_eq_false_iff_not, ne_eq] at *
        repeat' split
        all_goals first | omega | exact absurd trivial (by assumption) | exact absurd (Or.inl trivial) (by assumption) | exact absurd (Or.inr trivial) (by assumption)
    · by_cases k5 : k = 5
      · subst k5
        go_enter Try.func17, Try.ntmps17
        go_wp2_with fail
        refine (hin.out _).mono ?_
        rintro e w' ⟨rfl, rfl⟩
        go_wp2_with fail
        go_quiet (fail)
        go_wp2
        all_goals
          go_ret
          refine ⟨ret_int ?_, by first | exact hB | exact below_drewN hB _⟩
          have h := hF.out
          rw [← h]
          clear h hF hB hin
          try simp only [inB, Bool.and_eq_true, Bool.and_eq_false_iff, Bool.not_eq_true', Bool.not_eq_false', beq_iff_eq, beq_eq_false_iff_ne, decide_eq_true_eq, decide_eq_false_iff_not, ne_eq] at *
          repeat' split
          all_goals first | omega | exact absurd trivial (by assumption) | exact absurd (Or.inl trivial) (by assumption) | exact absurd (Or.inr trivial) (by assumption)
      · by_cases k7 : k = 7
        · subst k7
          go_enter Try.func17, Try.ntmps17
          go_wp2_with fail
          refine (hin.out _).mono ?_
          rintro e w' ⟨rfl, rfl⟩
          go_wp2_with fail
          go_quiet (fail)
          go_wp2
          all_goals
            go_ret
            refine ⟨ret_int ?_, by first | exact hB | exact below_drewN hB _⟩
            have h := hF.out
            rw [← h]
            clear h hF hB hin
            try simp only [inB, Bool.and_eq_true, Bool.and_eq_false_iff, Bool.not_eq_true', Bool.not_eq_false', beq_iff_eq, beq_eq_false_iff_ne, decide_eq_true_eq, decide_eq_false_iff_not, ne_eq] at *
            repeat' split
            all_goals first | omega | exact absurd trivial (by assumption) | exact absurd (Or.inl trivial) (by assumption) | exact absurd (Or.inr trivial) (by assumption)
        · have n1 : (k == 1) = false := by simpa using k1
          have n5 : (k == 5) = false := by simpa using k5
          have n7 : (k == 7) = false := by simpa using k7
          clear k1 k5 k7
          go_enter Try.func17, Try.ntmps17
          go_wp2_with (refine (in42_any _ _ _).mono ?_; rintro e w' ⟨rfl, rfl⟩)
          all_goals
            go_ret
            refine ⟨ret_int ?_, by first | exact hB | exact below_drewN hB _⟩
            have h := hF.out
            rw [← h]
            clear h hF hB hin
            try simp only [inB, Bool.and_eq_true, Bool.and_eq_false_iff, Bool.not_eq_true', Bool.not_eq_false', beq_iff_eq, beq_eq_false_iff_ne, decide_eq_true_eq, decide_eq_false_iff_not, ne_eq] at *
            repeat' split
            all_goals first | omega | exact absurd trivial (by assumption) | exact absurd (Or.inl trivial) (by assumption) | exact absurd (Or.inr trivial) (by assumption)
end Go.Proofs.Ytgnamahdchefnaa
