/- The contract of the model's stage. Conditions: right movements, a tick in range. -/
import Derived.Test.YtbfldhmpgealpaaW8
import Derived.Test.YtbfldhmpgealpaaContains
import Derived.StillTailTactics
namespace Go.Proofs.Ytbfldhmpgealpaa
open Go.RowKit

theorem firstF_none' {p : Nat → Bool} {n : Nat} (h : ∀ i, i < n → p i = false) : firstF p n = (0, false) := firstF_none (fun x _ => h x.val x.isLt)
theorem firstF_some' {p : Nat → Bool} {n k : Nat} (hk : k < n) (hp : p k = true) (h : ∀ i, i < k → p i = false) : firstF p n = ((k : Int), true) := by
  have : (List.range n).find? p = some k := by
    rw [List.find?_range_eq_some]
    exact ⟨hp, by simpa using hk, fun j hj => by simp [h j hj]⟩
  simp [firstF, this]

theorem stageF_end {l : List Mv} {tick : Int} (h : ∀ j, j < l.length → (mv l j).t ≤ tick) : stageF l tick = lastK (outAt l tick) l.length := by
  unfold stageF
  rw [firstF_none' (fun i hi => by unfold pastP; have := h i hi; simp; omega)]
  rfl
theorem stageF_at {l : List Mv} {tick : Int} {k : Nat} (hk : k < l.length) (h : ∀ j, j < k → (mv l j).t ≤ tick) (hp : tick < (mv l k).t) : stageF l tick = lastK (outAt l tick) k := by
  unfold stageF
  rw [firstF_some' hk (by unfold pastP; simpa using hp) (fun i hi => by unfold pastP; have := h i hi; simp; omega)]
  rfl

/-- the model's stage behind k rounds -/
def modAt (l : List Mv) (tick : Int) (k : Nat) : Int := if k = 0 then 0 else if k < l.length then afterF (mv l (k - 1)) (stgAt l (k - 1)) (min tick (mv l k).t) else outAt l tick (k - 1)
theorem modAt_in {l : List Mv} {tick : Int} {k : Nat} (hk : k < l.length) (h : (mv l k).t ≤ tick) : modAt l tick k = stgAt l k := by
  unfold modAt
  split
  · rename_i h0; subst h0; rfl
  · rename_i h0
    rw [show min tick (mv l k).t = (mv l k).t by omega]
    obtain ⟨j, rfl⟩ : ∃ j, k = j + 1 := ⟨k - 1, by omega⟩
    rfl
theorem modAt_past {l : List Mv} {tick : Int} {k : Nat} (hk : k < l.length) (h : tick < (mv l k).t) : modAt l tick k = lastK (outAt l tick) k := by
  unfold modAt lastK
  split
  · rfl
  · rw [show min tick (mv l k).t = tick by omega]
    rfl
theorem modAt_end {l : List Mv} {tick : Int} : modAt l tick l.length = lastK (outAt l tick) l.length := by
  unfold modAt lastK
  split
  · rfl
  · rw [if_neg (by omega)]
theorem modAt_next {l : List Mv} {tick : Int} {k : Nat} (hp : 1 ≤ (mv l k).p) (h : (mv l k).t ≤ tick) (hlt : k + 1 < l.length) (ho : (mv l k).t ≤ (mv l (k + 1)).t) :
    modAt l tick (k + 1) = towardF (mv l k) (stgAt l k) (min tick (mv l (k + 1)).t - (mv l k).t) := by
  unfold modAt
  rw [if_neg (by omega), if_pos hlt, toward_after hp (by omega)]
  rfl
theorem modAt_last {l : List Mv} {tick : Int} {k : Nat} (hp : 1 ≤ (mv l k).p) (h : (mv l k).t ≤ tick) (hlt : ¬ k + 1 < l.length) : modAt l tick (k + 1) = towardF (mv l k) (stgAt l k) (tick - (mv l k).t) := by
  unfold modAt
  rw [if_neg (by omega), if_neg hlt, toward_after hp h]
  rfl

set_option maxRecDepth 100000 in
set_option maxHeartbeats 4000000 in
theorem stage_any (v : Value) (N : Int) (l : List Mv) (tick : Int) (w : World) (hv : MvSl w v l) (hok : MvOk N l) (t0 : 0 ≤ tick) (t1 : tick ≤ 2000000000) :
    Calls Try.prog 35 #[v, .int .i64 tick] w (IntBelow (stageF l tick) w) := by
  obtain ⟨a, cap, hva⟩ := hv.len
  have hll := hok.len
  subst hva
  go_enter Try.func35, Try.ntmps35
  go_wp2
  go_loopw [5, 6] (fun s i wr => ∃ k : Nat, k ≤ l.length ∧ i = .int .i64 k ∧ s = .int .i64 (modAt l tick k) ∧ Hid (∀ j, j < k → (mv l j).t ≤ tick) ∧ Below w.heap.size w wr) (fun _ i _ => l.length - (intOf i).toNat)
  case atStart => exact ⟨0, Nat.zero_le _, rfl, rfl, fun j hj => absurd hj (by omega), Below.refl _ _⟩
  case round =>
    obtain ⟨k, hk, rfl, rfl, hal, hBr⟩ := hrel
    by_cases hlt : k < l.length
    · obtain ⟨b, off, cap', he, hc⟩ := (hv.mono hBr).at hlt
      cases he
      obtain ⟨c1, c2, c3⟩ := hc k hlt
      have hr := hok.r k hlt
      have hN := hok.n1
      have hs := stgAt_bd hok k hlt
      have hki : (k : Int) < (l.length : Int) := by omega
      unfold MvR at hr
      by_cases hp : (mv l k).t ≤ tick
      · have hin := modAt_in hlt hp
        have hal2 : ∀ j, j < k + 1 → (mv l j).t ≤ tick := fun j hj => by
          rcases Nat.lt_or_ge j k with h1 | h1
          · exact hal.out j h1
          · obtain rfl : j = k := by omega
            exact hp
        rw [hin]
        replace hal2 := Lib.hid hal2; replace hin := Lib.hid hin
        clear hal
        by_cases hlt2 : k + 1 < l.length
        · obtain ⟨d1, _, _⟩ := hc (k + 1) hlt2
          have ho := hok.o k hlt2
          have hr2 := hok.r (k + 1) hlt2
          unfold MvR at hr2
          have hnx := modAt_next (by omega) hp hlt2 (by omega)
          have hki2 : (k : Int) + 1 < (l.length : Int) := by omega
          clear hc hv hok
          generalize (mv l (k + 1)).t = t' at d1 ho hr2 hnx
          generalize mv l k = mk at *
          obtain ⟨t, s, p⟩ := mk
          simp only at c1 c2 c3 hr hp ho hnx
          generalize stgAt l k = st at hs hnx hin ⊢
          by_cases hm : t' < tick
          · rw [show min tick t' = t' by omega] at hnx
            replace hnx := Lib.hid hnx
            have d2 : wr.cell? ⟨b, off + (k + 1) * 3, none⟩ = some (.int .i64 t') := d1
            go_wp2_with fail
            have w1' : IntKind.i64.wrap (t' - t) = t' - t := IntWalk.i64_in _ (by omega)
            go_still_tail 12, (by kernel_rfl)
            have hbd : Below wr.heap.size wr wr.drew := (Below.refl _ _).drew
            have hBd := hBr.trans (hbd.mono hBr.size)
            change wpList _ _ _ _ _ wr.drew
            generalize wr.drew = w6 at hbd hBd ⊢
            clear c1 c2 c3 d1 d2 hbd w1'
            go_wp2_with fail
            refine (toward_any t s p st (t' - t) _ (by omega) (by omega) (by omega) (by omega) (by omega) (by omega) (by omega) (by omega)).mono ?_
            rintro e w7 ⟨rfl, hb7⟩
            rw [← hnx.out]
            go_wp2
            go_roundw
            case rel => exact ⟨k + 1, by omega, by go_num, rfl, hal2, hBd.trans (hb7.mono hBd.size)⟩
            case measure => simp [intOf]; omega
          · rw [show min tick t' = tick by omega] at hnx
            replace hnx := Lib.hid hnx
            have d2 : wr.cell? ⟨b, off + (k + 1) * 3, none⟩ = some (.int .i64 t') := d1
            go_wp2_with fail
            have w1' : IntKind.i64.wrap (tick - t) = tick - t := IntWalk.i64_in _ (by omega)
            go_still_tail 12, (by kernel_rfl)
            have hbd : Below wr.heap.size wr wr.drew := (Below.refl _ _).drew
            have hBd := hBr.trans (hbd.mono hBr.size)
            change wpList _ _ _ _ _ wr.drew
            generalize wr.drew = w6 at hbd hBd ⊢
            clear c1 c2 c3 d1 d2 hbd w1'
            go_wp2_with fail
            refine (toward_any t s p st (tick - t) _ (by omega) (by omega) (by omega) (by omega) (by omega) (by omega) (by omega) (by omega)).mono ?_
            rintro e w7 ⟨rfl, hb7⟩
            rw [← hnx.out]
            go_wp2
            go_roundw
            case rel => exact ⟨k + 1, by omega, by go_num, rfl, hal2, hBd.trans (hb7.mono hBd.size)⟩
            case measure => simp [intOf]; omega
        · have hnx := modAt_last (by omega) hp hlt2
          have hki2 : (l.length : Int) ≤ (k : Int) + 1 := by omega
          clear hc hv hok
          generalize mv l k = mk at *
          obtain ⟨t, s, p⟩ := mk
          simp only at c1 c2 c3 hr hp hnx
          generalize stgAt l k = st at hs hnx hin ⊢
          replace hnx := Lib.hid hnx
          go_wp2_with fail
          have w1' : IntKind.i64.wrap (tick - t) = tick - t := IntWalk.i64_in _ (by omega)
          go_still_tail 12, (by kernel_rfl)
          have hbd : Below wr.heap.size wr wr.drew := (Below.refl _ _).drew
          have hBd := hBr.trans (hbd.mono hBr.size)
          change wpList _ _ _ _ _ wr.drew
          generalize wr.drew = w6 at hbd hBd ⊢
          clear c1 c2 c3 hbd w1'
          go_wp2_with fail
          refine (toward_any t s p st (tick - t) _ (by omega) (by omega) (by omega) (by omega) (by omega) (by omega) (by omega) (by omega)).mono ?_
          rintro e w7 ⟨rfl, hb7⟩
          rw [← hnx.out]
          go_wp2
          go_roundw
          case rel => exact ⟨k + 1, by omega, by go_num, rfl, hal2, hBd.trans (hb7.mono hBd.size)⟩
          case measure => simp [intOf]; omega
      · have hres := (modAt_past hlt (by omega)).trans (stageF_at hlt hal.out (by omega)).symm
        rw [hres]
        replace hres := Lib.hid hres
        have hp2 : tick < (mv l k).t := by omega
        clear hc hv hok
        generalize hX : stageF l tick = X at hres ⊢
        replace hX := Lib.hid hX
        generalize mv l k = mk at *
        obtain ⟨t, s, p⟩ := mk
        simp only at c1 c2 c3 hp2
        have hd : decide (t ≤ tick) = false := by simp; omega
        go_wp2
        go_ret
        exact ⟨ret_int hX.out.symm, hBr⟩
    · obtain rfl : k = l.length := by omega
      have hres := (modAt_end (l := l) (tick := tick)).trans (stageF_end hal.out).symm
      rw [hres]
      clear hal
      replace hres := Lib.hid hres
      generalize hX : stageF l tick = X at hres ⊢
      replace hX := Lib.hid hX
      go_wp2
      go_ret
      exact ⟨ret_int hX.out.symm, hBr⟩
end Go.Proofs.Ytbfldhmpgealpaa
