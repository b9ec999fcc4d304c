/- The contracts of Total, and of the model's Sizes, Valid and Sum. Conditions: right costs; numbers in range for Valid and Sum. -/
import Derived.Test.YtoendfpfnfeccaaW6
namespace Go.Proofs.Ytoendfpfnfeccaa
open Go.RowKit Go.Shelf

theorem CsFit.of {css : List (List Int)} (h : CsOk css) : CsFit css := ⟨by have := h.n; omega, fun k => by
  rcases Nat.lt_or_ge k css.length with h1 | h1
  · rw [h.row k h1]; have := h.m; omega
  · have : nths css k = [] := by simp [nths, h1]
    rw [this]; simp⟩
/-- what Total answers -/
def TotalF (css : List (List Int)) (ls : List Int) : Int × Int := if ckF css true ≠ 0 then (0, ckF css true) else totF css ls false 0
set_option maxHeartbeats 1000000 in
theorem Total_any (v l : Value) (css : List (List Int)) (ls : List Int) (w : World) (hv : SlSl w v css) (hl : NumSl .i64 w l ls) (hf : CsFit css) : Calls Try.prog 23 #[v, l] w (PairBelow (TotalF css ls) w) := by
  have hck := Check_any v css w hv hf
  have htt := fun (h : ckF css true = 0) w' (hb : Below w.heap.size w w') => total_any v l css ls false 0 0 w' (hv.mono hb) (hl.mono hb) (csOk_of h).1 (by omega) (.inr ⟨rfl, rfl⟩)
  obtain ⟨F, hF⟩ : ∃ F, TotalF css ls = F := ⟨_, rfl⟩
  rw [hF]
  unfold TotalF at hF
  obtain ⟨a, c, rfl⟩ := hv.len
  obtain ⟨al, cl, rfl⟩ := hl.len
  generalize ckF css true = d at hck htt hF
  replace hck := Lib.hid hck
  replace htt := Lib.hid htt
  clear hv hl hf
  by_cases h0 : d = 0
  · rw [if_neg (by simp [h0])] at hF
    replace htt := Lib.hid (htt.out h0)
    subst h0
    rw [← hF]
    clear hF
    go_enter Try.func23, Try.ntmps23
    go_wp2_with fail
    refine hck.out.mono ?_
    rintro e w1 ⟨rfl, hb⟩
    go_wp2_with fail
    refine (htt.out _ hb).mono ?_
    rintro e w2 ⟨rfl, hb2⟩
    go_wp2
    go_ret2
    exact ⟨rfl, hb.trans (hb2.mono hb.size)⟩
  · rw [if_pos h0] at hF
    have h0b : (d != 0) = true := by simp [h0]
    replace h0 := Lib.hid h0
    subst hF
    go_enter Try.func23, Try.ntmps23
    go_wp2_with fail
    refine hck.out.mono ?_
    rintro e w1 ⟨rfl, hb⟩
    go_wp2
    go_ret2
    exact ⟨rfl, hb⟩

set_option maxRecDepth 100000 in
set_option maxHeartbeats 2000000 in
theorem refSizes_any (v r l : Value) (css : List (List Int)) (rows ls : List Int) (w : World) (hv : SlSl w v css) (hr : NumSl .i64 w r rows) (hl : NumSl .i64 w l ls) (hok : CsOk css) :
    Calls Try.prog 20 #[v, r, l] w (IntBelow (szE css rows ls) w) := by
  obtain ⟨F, hF⟩ : ∃ F, szE css rows ls = F := ⟨_, rfl⟩
  rw [hF]
  unfold szE at hF
  obtain ⟨n, hn⟩ : ∃ n, css.length = n := ⟨_, rfl⟩
  obtain ⟨m, hm⟩ : ∃ m, colN css = m := ⟨_, rfl⟩
  obtain ⟨rl, hrl⟩ : ∃ rl, rows.length = rl := ⟨_, rfl⟩
  obtain ⟨ll, hll⟩ : ∃ ll, ls.length = ll := ⟨_, rfl⟩
  have hr0 := Lib.hid hr
  have hl0 := Lib.hid hl
  have hn60 := hok.n
  have hm120 := hok.m
  have hz : 0 < n → ∃ b off cap a c, v = .slice (some ⟨b, off, none⟩) n cap ∧ w.cell? ⟨b, off, none⟩ = some (.slice a m c) := fun h => by
    obtain ⟨b, off, cap, a, c, h1, _, h2⟩ := hv.zero (by omega)
    exact ⟨b, off, cap, a, c, by rw [← hn]; exact h1, by rw [← hm]; exact h2⟩
  have hm0 : n = 0 → m = 0 := fun h => by
    obtain rfl : css = [] := List.eq_nil_of_length_eq_zero (hn.trans h)
    exact hm.symm
  obtain ⟨av, cv, rfl⟩ := hv.lenN hn
  obtain ⟨ar, cr, rfl⟩ := hr.lenV hrl
  obtain ⟨al, cl, rfl⟩ := hl.lenV hll
  rw [hn, hm, hrl, hll] at hF
  rw [hn] at hn60
  rw [hm] at hm120
  have hN : ∃ av' cv', (Value.slice av n cv = .slice av' n cv') ∧ ((n = 0 ∧ m = 0) ∨ (0 < n ∧ ∃ b off a c, av' = some ⟨b, off, none⟩ ∧ w.cell? ⟨b, off, none⟩ = some (.slice a m c))) := by
    rcases Nat.eq_zero_or_pos n with h | h
    · exact ⟨av, cv, rfl, .inl ⟨h, hm0 h⟩⟩
    · obtain ⟨b, off, cap, a, c, h1, h2⟩ := hz h
      cases h1
      exact ⟨_, _, rfl, .inr ⟨h, b, off, a, c, rfl, h2⟩⟩
  obtain ⟨av', cv', he, hN⟩ := hN
  cases he
  replace hrl := Lib.hid hrl
  replace hll := Lib.hid hll
  replace hF := Lib.hid hF
  clear hv hr hl hok hn hm hz hm0
  have h3 : Hid ((anyF badP rows = true ∨ anyF badP ls = true) → rl = n → ll = m → F = 3) := Lib.hid (fun h h1 h2 => by rw [← hF.out, if_neg (by simp [h1, h2]), if_pos h])
  have h0 : Hid (anyF badP rows = false → anyF badP ls = false → rl = n → ll = m → F = 0) := Lib.hid (fun h h' h1 h2 => by rw [← hF.out, if_neg (by simp [h1, h2]), if_neg (by simp [h, h'])])
  have h5 : Hid ((rl ≠ n ∨ ll ≠ m) → F = 5) := Lib.hid (fun h => by rw [← hF.out, if_pos h])
  clear hF
  rcases hN with ⟨rfl, rfl⟩ | ⟨hn0, b, off, a, c, rfl, hc0⟩
  · by_cases h1 : rl = 0
    · by_cases h2 : ll = 0
      · have hF0 := h0.out (anyF_false.2 (fun i hi => by rw [hrl.out] at hi; omega)) (anyF_false.2 (fun i hi => by rw [hll.out] at hi; omega)) h1 h2
        subst hF0 h1 h2
        clear h3 h0 h5 hr0 hl0 hrl hll hn60 hm120
        go_enter Try.func20, Try.ntmps20
        go_wp2
        go_loop [8] (fun i => i = .int .i64 0) (fun _ => 0)
        case atStart => rfl
        case round =>
          subst hrel
          go_wp2
          go_loop [9] (fun i => i = .int .i64 0) (fun _ => 0)
          case atStart => rfl
          case round =>
            subst hrel
            go_wp2
            go_ret
            exact ⟨rfl, Below.refl _ _⟩
      · have hF5 := h5.out (.inr h2)
        have hb : ((ll : Int) != 0) = true := by simp; omega
        subst hF5 h1
        clear h3 h0 h5 hr0 hl0 hrl hll hn60 hm120 h2
        go_enter Try.func20, Try.ntmps20
        go_wp2
        go_ret
        exact ⟨rfl, Below.refl _ _⟩
    · have hF5 := h5.out (.inl h1)
      have hb : ((rl : Int) != 0) = true := by simp; omega
      subst hF5
      clear h3 h0 h5 hr0 hl0 hrl hll hn60 hm120 h1
      go_enter Try.func20, Try.ntmps20
      go_wp2
      go_ret
      exact ⟨rfl, Below.refl _ _⟩
  · have hnb : decide ((0 : Int) < (n : Int)) = true := decide_eq_true (by omega)
    by_cases h1 : rl = n
    · by_cases h2 : ll = m
      · replace h3 := Lib.hid (fun h => h3.out h h1 h2)
        replace h0 := Lib.hid (fun h h' => h0.out h h' h1 h2)
        subst h1 h2
        clear h5
        go_enter Try.func20, Try.ntmps20
        go_wp2
        go_loop [8] (fun i => ∃ k : Nat, k ≤ rl ∧ i = .int .i64 (k : Int) ∧ Hid (∀ i, i < k → badP (nth rows i) = false)) (fun i => rl - (intOf i).toNat)
        case atStart => exact ⟨0, Nat.zero_le _, rfl, Lib.hid (fun i hi => by omega)⟩
        case round =>
          obtain ⟨k, hk, rfl, hp⟩ := hrel
          by_cases hlt : k < rl
          · have hkb : decide ((k : Int) < (rl : Int)) = true := decide_eq_true (by omega)
            obtain ⟨b2, off2, cap2, he, hc⟩ := hr0.out.atN hrl.out hlt
            cases he
            have hck := hc k hlt
            clear hc
            obtain ⟨c, hce⟩ : ∃ c, nth rows k = c := ⟨_, rfl⟩
            rw [hce] at hck
            by_cases hbad : badP c = true
            · have hF3 := h3.out (.inl (anyF_true.2 ⟨k, by rw [hrl.out]; exact hlt, by rw [hce]; exact hbad⟩))
              subst hF3
              clear h3 h0 hp hce
              by_cases hlo : c < -1000000000000
              · have hb1 : decide (c < -1000000000000) = true := decide_eq_true hlo
                clear hbad
                go_wp2
                go_ret
                exact ⟨rfl, Below.refl _ _⟩
              · have hb1 : decide (c < -1000000000000) = false := decide_eq_false hlo
                have hb2 : decide (1000000000000 < c) = true := decide_eq_true (by
                  rcases Int.lt_or_le 1000000000000 c with h | h
                  · exact h
                  · rw [badP_in (by omega)] at hbad; cases hbad)
                clear hbad
                go_wp2
                go_ret
                exact ⟨rfl, Below.refl _ _⟩
            · rw [Bool.not_eq_true] at hbad
              have hin := badP_false hbad
              have hb1 : decide (c < -1000000000000) = false := decide_eq_false (by omega)
              have hb2 : decide (1000000000000 < c) = false := decide_eq_false (by omega)
              have hp2 : ∀ i, i < k + 1 → badP (nth rows i) = false := fun i hi => by
                rcases Nat.lt_or_ge i k with h | h
                · exact hp.out i h
                · obtain rfl : i = k := by omega
                  rw [hce]; exact hbad
              replace hp2 := Lib.hid hp2
              clear hp hce hbad hin
              go_wp2
              go_round
              case rel => exact ⟨k + 1, by omega, by go_num, hp2⟩
              case measure => simp [intOf]; omega
          · obtain rfl : k = rl := by omega
            have ha : anyF badP rows = false := anyF_false.2 (fun i hi => hp.out i (by rw [← hrl.out]; exact hi))
            replace ha := Lib.hid ha
            clear hp
            go_wp2
            go_loop [9] (fun i => ∃ k : Nat, k ≤ ll ∧ i = .int .i64 (k : Int) ∧ Hid (∀ i, i < k → badP (nth ls i) = false)) (fun i => ll - (intOf i).toNat)
            case atStart => exact ⟨0, Nat.zero_le _, rfl, Lib.hid (fun i hi => by omega)⟩
            case round =>
              obtain ⟨k, hk, rfl, hp⟩ := hrel
              by_cases hlt2 : k < ll
              · have hkb : decide ((k : Int) < (ll : Int)) = true := decide_eq_true (by omega)
                obtain ⟨b2, off2, cap2, he, hc⟩ := hl0.out.atN hll.out hlt2
                cases he
                have hck := hc k hlt2
                clear hc
                obtain ⟨c, hce⟩ : ∃ c, nth ls k = c := ⟨_, rfl⟩
                rw [hce] at hck
                by_cases hbad : badP c = true
                · have hF3 := h3.out (.inr (anyF_true.2 ⟨k, by rw [hll.out]; exact hlt2, by rw [hce]; exact hbad⟩))
                  subst hF3
                  clear h3 h0 hp hce
                  by_cases hlo : c < -1000000000000
                  · have hb1 : decide (c < -1000000000000) = true := decide_eq_true hlo
                    clear hbad
                    go_wp2
                    go_ret
                    exact ⟨rfl, Below.refl _ _⟩
                  · have hb1 : decide (c < -1000000000000) = false := decide_eq_false hlo
                    have hb2 : decide (1000000000000 < c) = true := decide_eq_true (by
                      rcases Int.lt_or_le 1000000000000 c with h | h
                      · exact h
                      · rw [badP_in (by omega)] at hbad; cases hbad)
                    clear hbad
                    go_wp2
                    go_ret
                    exact ⟨rfl, Below.refl _ _⟩
                · rw [Bool.not_eq_true] at hbad
                  have hin := badP_false hbad
                  have hb1 : decide (c < -1000000000000) = false := decide_eq_false (by omega)
                  have hb2 : decide (1000000000000 < c) = false := decide_eq_false (by omega)
                  have hp2 : ∀ i, i < k + 1 → badP (nth ls i) = false := fun i hi => by
                    rcases Nat.lt_or_ge i k with h | h
                    · exact hp.out i h
                    · obtain rfl : i = k := by omega
                      rw [hce]; exact hbad
                  replace hp2 := Lib.hid hp2
                  clear hp hce hbad hin
                  go_wp2
                  go_round
                  case rel => exact ⟨k + 1, by omega, by go_num, hp2⟩
                  case measure => simp [intOf]; omega
              · obtain rfl : k = ll := by omega
                have hF0 := h0.out ha.out (anyF_false.2 (fun i hi => hp.out i (by rw [← hll.out]; exact hi)))
                subst hF0
                clear h3 h0 hp
                go_wp2
                go_ret
                exact ⟨rfl, Below.refl _ _⟩
      · have hF5 := h5.out (.inr h2)
        have hb : ((ll : Int) != (m : Int)) = true := by simp; omega
        subst hF5 h1
        clear h3 h0 h5 hr0 hl0 hrl hll h2
        go_enter Try.func20, Try.ntmps20
        go_wp2
        go_ret
        exact ⟨rfl, Below.refl _ _⟩
    · have hF5 := h5.out (.inl h1)
      have hb : ((rl : Int) != (n : Int)) = true := by simp; omega
      subst hF5
      clear h3 h0 h5 hr0 hl0 hrl hll h1
      go_enter Try.func20, Try.ntmps20
      go_wp2
      go_ret
      exact ⟨rfl, Below.refl _ _⟩
end Go.Proofs.Ytoendfpfnfeccaa
