/- The contracts of the model's check and demands. Conditions: the list has at most 2^47 elements. -/
import Derived.Test.YtbflocamicebhaaW9
namespace Go.Proofs.Ytbflocamicebhaa
open Go.RowKit Go.Shelf

set_option maxHeartbeats 1000000 in
theorem lcheck_any (c l s q : Int) (w : World) :
    Calls Try.prog 28 #[.agg #[.int .i64 c, .int .i64 l, .int .i64 s, .int .i64 q]] w fun e w' => e = .returned (.int .i64 (checkF c l s q)) ∧ Below w.heap.size w w' := by
  go_enter Try.func28, Try.ntmps28
  go_wp2_with (go_at_call 19; refine (in_any _ _ _).mono ?_; rintro e w' ⟨rfl, rfl⟩)
  all_goals
    go_ret
    exact ⟨by simp_all [checkF], (Below.refl _ _).alloc (Nat.le_refl _) _⟩

set_option maxHeartbeats 1000000 in
theorem ldemands_any (c l s q : Int) (v : Value) (xs : List Int) (w : World) (hv : IntSl w v xs) (hm : xs.length ≤ 140737488355328) :
    Calls Try.prog 30 #[.agg #[.int .i64 c, .int .i64 l, .int .i64 s, .int .i64 q], v] w fun e w' => e = .returned (.int .i64 (demF c l s q xs)) ∧ Below w.heap.size w w' := by
  have hv1 := hv.mono ((Below.refl _ w).alloc (Nat.le_refl _) (.cells #[.int .i64 c, .int .i64 l, .int .i64 s, .int .i64 q] 28))
  obtain ⟨a, cap, rfl⟩ := hv.len
  clear hv
  have hD : demF c l s q xs = if checkF c l s q ≠ 0 then checkF c l s q else if 2000 < xs.length then 4 else if xs.any (fun n => !windB n 1000000000) then 3 else 0 := rfl
  have hD := Lib.hid hD
  generalize demF c l s q xs = d at hD
  generalize hch : checkF c l s q = ch at hD
  have hch := Lib.hid hch
  have hB0 := (Below.refl _ w).alloc (Nat.le_refl _) (.cells #[.int .i64 c, .int .i64 l, .int .i64 s, .int .i64 q] 28)
  go_enter Try.func30, Try.ntmps30
  go_wp2_with fail
  refine (lcheck_any _ _ _ _ _).mono ?_
  rintro e w1 ⟨rfl, hb⟩
  have hv2 := hv1.mono hb
  have hB := hB0.trans (hb.mono (by simp))
  clear hv1 hb hB0
  rw [hch.out]
  by_cases h0 : ch = 0
  · subst h0
    by_cases h1 : 2000 < xs.length
    · go_wp2
      go_ret
      exact ⟨by rw [hD.out]; simp [h1], hB⟩
    · go_wp2
      go_loopw [6] (fun i wr => ∃ k : Nat, k ≤ xs.length ∧ i = .int .i64 k ∧ (∀ j, j < k → windB (xs[j]?.getD 0) 1000000000 = true) ∧ wr = w1) (fun i _ => xs.length - (intOf i).toNat)
      case atStart => exact ⟨0, by omega, rfl, fun j hj => by omega, rfl⟩
      case round =>
        obtain ⟨k, hk, rfl, hno, rfl⟩ := hrel
        by_cases hlt : k < xs.length
        · obtain ⟨b, off, cap', he, hck⟩ := hv2.at hlt
          cases he
          have hno2 := Lib.hid hno
          clear hno
          have hxk : (xs[k]?.getD 0) = xs[k] := by simp [hlt]
          rw [hxk] at hck
          obtain ⟨x, hx⟩ : ∃ x, windB xs[k] 1000000000 = x := ⟨_, rfl⟩
          have hx2 := Lib.hid hx
          cases x
          · have hd3 : d = 3 := by
              rw [hD.out, if_neg (by simp), if_neg h1, if_pos]
              exact List.any_eq_true.2 ⟨xs[k], List.getElem_mem hlt, by rw [hx]; rfl⟩
            subst hd3
            clear hx
            go_wp2_with (go_at_call 19; refine (in_any _ _ _).mono ?_; rintro e w' ⟨rfl, rfl⟩; rw [hx2.out])
            go_ret
            exact ⟨rfl, hB⟩
          · clear hx
            go_wp2_with (go_at_call 19; refine (in_any _ _ _).mono ?_; rintro e w' ⟨rfl, rfl⟩; rw [hx2.out])
            go_roundw
            case rel =>
              refine ⟨k + 1, by omega, by go_num, fun j hj => ?_, by trivial⟩
              by_cases hjk : j = k
              · subst hjk; rw [hxk]; exact hx2.out
              · exact hno2.out j (by omega)
            case measure => simp [intOf]; omega
        · obtain rfl : k = xs.length := by omega
          have hd0 : d = 0 := by
            rw [hD.out, if_neg (by simp), if_neg h1, if_neg]
            rw [List.any_eq_true]
            rintro ⟨x, hx, hf⟩
            obtain ⟨j, hj, rfl⟩ := List.getElem_of_mem hx
            have := hno j hj
            simp [hj] at this
            simp [this] at hf
          subst hd0
          clear hno
          go_wp2
          go_ret
          exact ⟨rfl, hB⟩
  · have h0' : (ch == 0) = false := by simpa using h0
    go_wp2
    go_ret
    exact ⟨by rw [hD.out]; simp [h0], hB⟩
end Go.Proofs.Ytbflocamicebhaa
