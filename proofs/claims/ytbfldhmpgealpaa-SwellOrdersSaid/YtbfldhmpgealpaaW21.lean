/- The contracts of the standard library's insertion sort and stable sort, for indices by a key. Conditions: at most 20 indices. -/
import Derived.Test.YtbfldhmpgealpaaW20
import Derived.Deep.AppendLies
import Derived.BigQuiet
import Derived.Laws.OwnMore
namespace Go.Proofs.Ytbfldhmpgealpaa
open Go.RowKit Go.Shelf

/-- what is asked of the comparison: it reads the world of the sort and draws -/
def CmpOk (f : Int → Int) (n g : Nat) (cb : Array Value) (w : World) : Prop :=
  ∀ (x y : Nat) (wr : World), x < n → y < n → w.grownBy wr (some g) → Calls Try.prog 46 (#[.int .i64 x, .int .i64 y] ++ cb) wr fun e w' => e = .returned (.int .i64 (f x - f y)) ∧ ∃ m, w' = wr.drewN m

def SortPost (f : Int → Int) (n g cap base i : Nat) (w : World) (e : Ending) (w' : World) : Prop :=
  e = .returned (.tuple #[]) ∧ w.grownBy w' (some g) ∧ ∃ ys, OutSt f ys n i ∧ w'.ownsRow base 3 1 (.slice (some ⟨g, 0, none⟩) n cap) n (ys.map (Value.int .i64))

theorem grown_drewN {a c : World} {row : Option Nat} (h : a.grownBy c row) (n : Nat) : a.grownBy (c.drewN n) row := ⟨h.os, h.tape, h.output, h.size, h.block⟩

theorem grown_drew1 {a c : World} {row : Option Nat} (h : a.grownBy c row) : a.grownBy c.drew row := ⟨h.os, h.tape, h.output, h.size, h.block⟩

theorem own_map_set' {K : IntKind} (xs : List Int) (i : Nat) (z : Int) : (xs.map (Value.int K)).set i (.int K z) = (xs.set i z).map (Value.int K) := by simp [List.map_set]

theorem nthCell {ys : List Int} {n i : Nat} (hn : ys.length = n) (hi : i < n) : (ys.map (Value.int .i64))[i]? = some (.int .i64 (nth ys i)) := by
  subst hn
  simp [hi, nth_lt hi]

set_option maxRecDepth 100000 in
set_option maxHeartbeats 4000000 in
theorem insertion_any (f : Int → Int) (n g cap base : Nat) (cb : Array Value) (ys0 : List Int) (w : World) (hn : n ≤ 20) (hn1 : 1 ≤ n) (hcmp : CmpOk f n g cb w) (hf : ∀ i : Nat, i < n → 0 ≤ f i ∧ f i ≤ 1000000000000000)
    (ho : w.ownsRow base 3 1 (.slice (some ⟨g, 0, none⟩) n cap) n (ys0.map (Value.int .i64))) (hs : OutSt f ys0 n 1) :
    Calls Try.prog 53 #[.slice (some ⟨g, 0, none⟩) n cap, .int .i64 0, .int .i64 n, .func (.func 46) #[] cb] w (SortPost f n g cap base n w) := by
  replace hcmp := Lib.hid hcmp
  replace hf := Lib.hid hf
  go_enter Try.func53, Try.ntmps53
  go_wp2_with fail
  go_loopw [8] (fun i wr => ∃ k : Nat, 1 ≤ k ∧ k ≤ n ∧ i = .int .i64 k ∧ w.grownBy wr (some g) ∧ ∃ ys, Hid (OutSt f ys n k) ∧ wr.ownsRow base 3 1 (.slice (some ⟨g, 0, none⟩) n cap) n (ys.map (Value.int .i64))) (fun i _ => n - (intOf i).toNat)
  case atStart => exact ⟨1, Nat.le_refl _, hn1, by go_num, World.grownBy.refl _ _, ys0, Lib.hid hs, ho⟩
  case round =>
    obtain ⟨k, hk1, hk, rfl, hg, ys, hst, hown⟩ := hrel
    by_cases hlt : k < n
    · have hin := hst.out.inner hlt
      obtain ⟨wo, rfl⟩ : ∃ wo : World, wo = wr := ⟨_, rfl⟩
      go_wp2_with fail
      go_loopw [9] (fun i wr => ∃ j : Nat, j ≤ k ∧ i = .int .i64 j ∧ w.grownBy wr (some g) ∧ ∃ ys, Hid (InSt f ys n k j) ∧ wr.ownsRow base 3 1 (.slice (some ⟨g, 0, none⟩) n cap) n (ys.map (Value.int .i64))) (fun i _ => (intOf i).toNat)
      case atStart => exact ⟨k, Nat.le_refl _, rfl, hg, ys, Lib.hid hin, hown⟩
      case round =>
        clear hown hg hst hin ys
        obtain ⟨j, hj, rfl, hg, ys, hst, hown⟩ := hrel
        obtain ⟨wq, rfl⟩ : ∃ wq : World, wq = wr := ⟨_, rfl⟩
        by_cases hj0 : 0 < j
        · have hj0' : (0 : Int) < (j : Int) := by omega
          have hj1 : 1 ≤ (j : Int) := by omega
          have hjn : (j : Int) < (n : Int) := by omega
          have hjm : ((j : Int) - 1).toNat = j - 1 := by omega
          have cj := hown.cellAt j (by omega)
          have cm := hown.cellAt (j - 1) (by omega)
          have fj := hown.frozenAt j
          have fm := hown.frozenAt (j - 1)
          rw [nthCell hst.out.len (by omega)] at cj cm
          have hlow := hst.out.low (j - 1) (by omega) (by omega)
          have hkn : k < n := hlt
          obtain ⟨xm, hxm⟩ : ∃ xm : Nat, nth ys (j - 1) = xm := ⟨(nth ys (j - 1)).toNat, by omega⟩
          have hxmn : xm < n := by omega
          have hfk := hf.out k hkn
          have hfx := hf.out xm hxmn
          have hhere := hst.out.here
          rw [hxm] at cm
          rw [hhere] at cj
          have hcl : ∀ q, Calls Try.prog 46 (#[.int .i64 k, .int .i64 xm] ++ cb) (wq.drewN q) fun e w' => e = .returned (.int .i64 (f k - f xm)) ∧ ∃ m, w' = wq.drewN m := fun q =>
            (hcmp.out k xm (wq.drewN q) hkn hxmn (grown_drewN hg q)).mono fun _ _ ⟨he, m, hm⟩ => ⟨he, q + m, by rw [hm, World.drewN_drewN]⟩
          have hgd : ∀ q, w.grownBy (wq.drewN q) (some g) := fun q => grown_drewN hg q
          have hownd : ∀ q, (wq.drewN q).ownsRow base 3 1 (.slice (some ⟨g, 0, none⟩) n cap) n (ys.map (Value.int .i64)) := fun q => hown
          have hxm2 : (xm : Int) = nth ys (j - 1) := hxm.symm
          have hh2 : (k : Int) = nth ys j := hhere.symm
          replace hxm := Lib.hid hxm
          replace hhere := Lib.hid hhere
          replace hxm2 := Lib.hid hxm2
          replace hh2 := Lib.hid hh2
          replace hgd := Lib.hid hgd
          replace hownd := Lib.hid hownd
          replace hcl := Lib.hid hcl
          by_cases hff : f k < f xm
          · have hd : decide (f k - f xm < 0) = true := decide_eq_true (by omega)
            have hstep := hst.out.step hj hkn (by omega) (by rw [← hh2.out, ← hxm2.out]; exact hff)
            rw [← hh2.out, ← hxm2.out] at hstep
            replace hstep := Lib.hid hstep
            generalize hF1 : f k = F1 at hd hcl hff hfk
            generalize hF2 : f xm = F2 at hd hcl hff hfx
            clear hF1 hF2 hlow
            go_wp2_with fail
            go_quiet ((go_at_call 46; exact hcl.out _))
            clear cj cm fj fm
            generalize hwd : wq.drewN nq = wd
            have hown2 := hwd ▸ hownd.out nq
            have hgd2 := hwd ▸ hgd.out nq
            have cj := hown2.cellAt j (by omega)
            have cm := hown2.cellAt (j - 1) (by omega)
            have fj := hown2.frozenAt j
            have fm := hown2.frozenAt (j - 1)
            rw [nthCell hst.out.len (by omega)] at cj cm
            rw [← hxm2.out] at cm
            rw [← hh2.out] at cj
            clear hwd
            have hst1 := ((hown2.drew.stored j (.int .i64 xm)).1.stored (j - 1) (.int .i64 k)).1
            have hg1 := (grownBy_trans (grownBy_trans (grown_drew1 hgd2) (grownBy_setCell wd.drew ⟨g, j, none⟩ (.int .i64 xm))) (grownBy_setCell _ ⟨g, j - 1, none⟩ (.int .i64 k)))
            rw [own_map_set', own_map_set'] at hst1
            replace hst1 := Lib.hid hst1
            replace hg1 := Lib.hid hg1
            go_wp2_with fail
            go_region
            all_goals go_wp2
            all_goals go_roundw
            case rel => exact ⟨j - 1, by omega, by go_num, hg1.out, _, hstep, hst1.out⟩
            case measure => simp [intOf]; omega
          · have hd : decide (f k - f xm < 0) = false := decide_eq_false (by omega)
            have hout := hst.out.stop hj (.inr ⟨by omega, by rw [← hh2.out, ← hxm2.out]; omega⟩)
            generalize hF1 : f k = F1 at hd hcl hff hfk
            generalize hF2 : f xm = F2 at hd hcl hff hfx
            clear hF1 hF2 hlow
            go_wp2_with fail
            go_quiet ((go_at_call 46; exact hcl.out _))
            go_wp2
            go_roundw
            case rel => exact ⟨k + 1, by omega, by omega, by go_num, hgd.out _, ys, Lib.hid hout, hownd.out _⟩
            case measure => simp [intOf]; omega
        · obtain rfl : j = 0 := by omega
          have hout := hst.out.stop hj (.inl rfl)
          have hgd : ∀ q, w.grownBy (wq.drewN q) (some g) := fun q => grown_drewN hg q
          have hownd : ∀ q, (wq.drewN q).ownsRow base 3 1 (.slice (some ⟨g, 0, none⟩) n cap) n (ys.map (Value.int .i64)) := fun q => hown
          replace hgd := Lib.hid hgd
          replace hownd := Lib.hid hownd
          go_wp2_with fail
          go_quiet (fail)
          go_wp2
          go_roundw
          case rel => exact ⟨k + 1, by omega, by omega, by go_num, hgd.out _, ys, Lib.hid hout, hownd.out _⟩
          case measure => simp [intOf]; omega
    · obtain rfl : k = n := by omega
      go_wp2
      go_end0
      exact ⟨rfl, hg, ys, hst.out, hown⟩
end Go.Proofs.Ytbfldhmpgealpaa
