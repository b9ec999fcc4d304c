/- The walk of MatchingTotals. Conditions: lists that come in. -/
import Derived.Test.YtoendfpfnfeccaaOpen
namespace Go.Proofs.Ytoendfpfnfeccaa
open Go.RowKit Go.Shelf

theorem fit_small {css : List (List Int)} (h : smS css 0 = true) : CsFit css := by
  obtain ⟨h1, h2⟩ := smS_ok h
  refine ⟨by omega, fun k => ?_⟩
  rcases Nat.lt_or_ge k css.length with hk | hk
  · have := h2 k hk; omega
  · simp [nths, hk]
set_option maxRecDepth 100000 in
set_option maxHeartbeats 4000000 in
theorem law6_any (v l : Value) (css : List (List Int)) (ls : List Int) (w : World) (hv : SlSl w v css) (hl : NumSl .i64 w l ls) (hin : CsIn css) (hll : ls.length ≤ 9223372036854775807) : Calls Try.prog 6 #[v, l] w (BoolBelow true w) := by
  have hkn := Lib.hid known_any
  have hsm := Lib.hid (fun w' (hb : Below w.heap.size w w') => small_any v css w' (hv.mono hb) hin.l hin.r)
  have hv0 := Lib.hid hv
  have hl0 := Lib.hid hl
  have hCk := Lib.hid (fun w' (hb : Below w.heap.size w w') (h : CsFit css) => refCheck_any v css true w' (hv.mono hb) h)
  have hT := Lib.hid (fun w' (hb : Below w.heap.size w w') (h : CsFit css) => Total_any v l css ls w' (hv.mono hb) (hl.mono hb) h)
  have hR := Lib.hid (fun w' (hb : Below w.heap.size w w') (h : CsOk css) => refTotal_any v l css ls false 0 w' (hv.mono hb) (hl.mono hb) h (by omega))
  obtain ⟨av, cv, rfl⟩ := hv.len
  obtain ⟨al, cl, rfl⟩ := hl.len
  obtain ⟨q, hq⟩ : ∃ q, smS css 0 = q := ⟨_, rfl⟩
  rw [hq] at hsm
  clear hv hl hin
  cases q with
  | false =>
    replace hq := Lib.hid hq
    go_enter Try.func6, Try.ntmps6
    go_wp2_with fail
    refine (hkn.out _).mono ?_
    rintro e w1 ⟨rfl, hb1⟩
    go_wp2_with fail
    refine (hsm.out _ hb1).mono ?_
    rintro e w2 ⟨rfl, hb2⟩
    have hB2 := hb1.trans (hb2.mono hb1.size)
    go_wp2_with fail
    refine (hkn.out _).mono ?_
    rintro e w3 ⟨rfl, hb3⟩
    go_wp2
    go_ret
    exact ⟨rfl, hB2.trans (hb3.mono hB2.size)⟩
  | true =>
    have hfit := fit_small hq
    have hn5 := (smS_ok hq).1
    replace hq := Lib.hid hq
    by_cases h6 : 6 < ls.length
    · have h6b : decide ((6 : Int) < (ls.length : Int)) = true := decide_eq_true (by omega)
      go_enter Try.func6, Try.ntmps6
      go_wp2_with fail
      refine (hkn.out _).mono ?_
      rintro e w1 ⟨rfl, hb1⟩
      go_wp2_with fail
      refine (hsm.out _ hb1).mono ?_
      rintro e w2 ⟨rfl, hb2⟩
      have hB2 := hb1.trans (hb2.mono hb1.size)
      go_wp2_with fail
      refine (hkn.out _).mono ?_
      rintro e w3 ⟨rfl, hb3⟩
      go_wp2
      go_ret
      exact ⟨rfl, hB2.trans (hb3.mono hB2.size)⟩
    · have h6b : decide ((6 : Int) < (ls.length : Int)) = false := decide_eq_false (by omega)
      have hCk2 := Lib.hid (fun w' hb => hCk.out w' hb hfit)
      have hT2 := fun w' hb => hT.out w' hb hfit
      unfold TotalF at hT2
      obtain ⟨d, hd⟩ : ∃ d, ckF css true = d := ⟨_, rfl⟩
      rw [hd] at hCk2 hT2
      by_cases h0 : d = 0
      · rw [if_neg (by simp [h0])] at hT2
        have hR2 := fun w' hb => hR.out w' hb (csOk_of (hd.trans h0)).1
        subst h0
        obtain ⟨p1, p2, hp⟩ : ∃ p1 p2, totF css ls false 0 = (p1, p2) := ⟨_, _, rfl⟩
        rw [hp] at hT2 hR2
        replace hT2 := Lib.hid hT2
        replace hR2 := Lib.hid hR2
        replace hfit := Lib.hid hfit
        replace hd := Lib.hid hd
        replace hp := Lib.hid hp
        clear hCk hT hR
        go_enter Try.func6, Try.ntmps6
        go_wp2_with fail
        refine (hkn.out _).mono ?_
        rintro e w1 ⟨rfl, hb1⟩
        go_wp2_with fail
        refine (hsm.out _ hb1).mono ?_
        rintro e w2 ⟨rfl, hb2⟩
        have hB2 := hb1.trans (hb2.mono hb1.size)
        go_wp2_with fail
        refine (hCk2.out _ hB2).mono ?_
        rintro e w3 ⟨rfl, hb3⟩
        have hB3 := hB2.trans (hb3.mono hB2.size)
        go_wp2_with fail
        refine (hT2.out _ hB3).mono ?_
        rintro e w4 ⟨rfl, hb4⟩
        have hB4 := hB3.trans (hb4.mono hB3.size)
        go_wp2_with fail
        refine (hR2.out _ hB4).mono ?_
        rintro e w5 ⟨rfl, hb5⟩
        have hB5 := hB4.trans (hb5.mono hB4.size)
        go_wp2
        go_ret
        exact ⟨by simp, hB5⟩
      · have hdb : (d != 0) = true := by simp [h0]
        replace h0 := Lib.hid h0
        replace hT2 := Lib.hid hT2
        replace hfit := Lib.hid hfit
        replace hd := Lib.hid hd
        clear hCk hT hR
        go_enter Try.func6, Try.ntmps6
        go_wp2_with fail
        refine (hkn.out _).mono ?_
        rintro e w1 ⟨rfl, hb1⟩
        go_wp2_with fail
        refine (hsm.out _ hb1).mono ?_
        rintro e w2 ⟨rfl, hb2⟩
        have hB2 := hb1.trans (hb2.mono hb1.size)
        go_wp2_with fail
        refine (hCk2.out _ hB2).mono ?_
        rintro e w3 ⟨rfl, hb3⟩
        have hB3 := hB2.trans (hb3.mono hB2.size)
        go_wp2_with fail
        refine (hkn.out _).mono ?_
        rintro e w4 ⟨rfl, hb4⟩
        go_wp2
        go_ret
        exact ⟨rfl, hB3.trans (hb4.mono hB3.size)⟩
end Go.Proofs.Ytoendfpfnfeccaa
