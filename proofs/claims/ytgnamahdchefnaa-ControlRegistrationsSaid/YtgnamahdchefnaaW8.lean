/- The contracts of possible and of the model's possible. Conditions: consoles of plans. -/
import Derived.Test.YtgnamahdchefnaaW7
namespace Go.Proofs.Ytgnamahdchefnaa
open Go.RowKit Go.Shelf

set_option maxRecDepth 100000 in
set_option maxHeartbeats 4000000 in
theorem possible_any (x y xd xg xv xp : Value) (C : Con) (st : St) (k d i : Int) (w : World) (hC : C.Ok) (hr : ConR w x y C) (hst : StR w xd xg xv xp st) :
    Calls Try.prog 33 #[conV x y C.co C.ge C.lv, stV xd st.d.c st.d.o st.l xg xv xp, evV k d i] w (IntBelow (posF C st k d i) w) := by
  have hB := (((Below.refl w.heap.size w).alloc (Nat.le_refl _) (.cells #[x, .int .i64 C.co, .int .i64 C.ge, y, .int .i64 C.lv] 32)).alloc (by simp) (.cells #[xd, .int .u64 st.d.c, .int .u64 st.d.o, .int .i64 st.l, xg, xv, xp] 42)).alloc (by simp; omega) (.cells #[.int .i64 k, .int .i64 d, .int .i64 i] 28)
  have hr1 := hr.mono hB
  obtain ⟨a, cap, rfl⟩ := hr.s.len
  obtain ⟨a2, cap2, rfl⟩ := hr.d.lenV hC.dl
  obtain ⟨a3, cap3, rfl⟩ := hst.d.len
  obtain ⟨a4, cap4, rfl⟩ := SlOf.len hst.g
  obtain ⟨a5, cap5, rfl⟩ := SlOf.len hst.v
  obtain ⟨a6, cap6, rfl⟩ := hst.p.len
  have hn := hC.n
  have hdl := hC.dl
  replace hdl := Lib.hid hdl
  clear hr hst
  obtain ⟨F, hF⟩ : ∃ F, posF C st k d i = F := ⟨_, rfl⟩
  rw [hF]
  by_cases hd : 0 ≤ d ∧ d < C.s.length
  · obtain ⟨n, rfl⟩ : ∃ n : Nat, d = n := ⟨d.toNat, by omega⟩
    have hnl : n < C.s.length := by omega
    obtain ⟨b, off, cap', he, hc⟩ := hr1.s.at hnl
    cases he
    obtain ⟨b2, off2, cap2', he2, hc2⟩ := hr1.d.atN hdl.out hnl
    cases he2
    have cs := hc n hnl
    have cd := hc2 n hnl
    unfold posF at hF
    simp only [Int.toNat_natCast, hd.1, hd.2, true_and] at hF
    generalize nth C.s n = zs at cs hF
    generalize nth C.d n = zd at cd hF
    replace hF := Lib.hid hF
    have hd2 := hd.2
    have hd3 : decide ((n : Int) < (C.s.length : Int)) = true := decide_eq_true hd.2
    have hd4 : decide (n < C.s.length) = true := decide_eq_true hnl
    clear hd hc hc2 hr1 hC
    go_enter Try.func33, Try.ntmps33
    go_wp2
    all_goals
      go_ret
      refine ⟨ret_int ?_, hB⟩
      have h := hF.out
      rw [← h]
      clear h hF hB cs cd
      simp only [beq_iff_eq, beq_eq_false_iff_ne, decide_eq_true_eq, ne_eq] at *
      repeat' split
      all_goals omega
  · unfold posF at hF
    generalize nth C.s d.toNat = zs at hF
    generalize nth C.d d.toNat = zd at hF
    replace hF := Lib.hid hF
    clear hr1 hC
    by_cases hd0 : 0 ≤ d
    · have hd1 : decide (d < (C.s.length : Int)) = false := decide_eq_false (by omega)
      have hd2 : ¬ d < (C.s.length : Int) := by omega
      replace hd := Lib.hid hd
      go_enter Try.func33, Try.ntmps33
      go_wp2
      all_goals
        go_ret
        refine ⟨ret_int ?_, hB⟩
        have h := hF.out
        rw [← h]
        clear h hF hB
        simp only [beq_iff_eq, beq_eq_false_iff_ne, ne_eq] at *
        repeat' split
        all_goals omega
    · have hd1 : decide (0 ≤ d) = false := decide_eq_false (by omega)
      replace hd := Lib.hid hd
      go_enter Try.func33, Try.ntmps33
      go_wp2
      all_goals
        go_ret
        refine ⟨ret_int ?_, hB⟩
        have h := hF.out
        rw [← h]
        clear h hF hB
        simp only [beq_iff_eq, beq_eq_false_iff_ne, ne_eq] at *
        repeat' split
        all_goals omega
end Go.Proofs.Ytgnamahdchefnaa
