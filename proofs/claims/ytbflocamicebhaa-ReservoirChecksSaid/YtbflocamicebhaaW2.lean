/- The contract of the iterator over a reservoir's states. Conditions: a right reservoir with right demands (Okay). -/
import Derived.Test.YtbflocamicebhaaW1
namespace Go.Proofs.Ytbflocamicebhaa
open Go.RowKit Go.Shelf
attribute [local go_sem] Oper.semAt_some

/-- the level before tick k -/
def lvAt (c s l : Int) (xs : List Int) : Nat → Int
  | 0 => l
  | k + 1 => (stepF c s (lvAt c s l xs k) (xs[k]?.getD 0)).1
/-- the state after tick k -/
def stAt (c s l : Int) (xs : List Int) (k : Nat) : Int × Int × Int := stepF c s (lvAt c s l xs k) (xs[k]?.getD 0)

/-- numbers in range -/
structure Okay (c l s _q : Int) (xs : List Int) : Prop where
  c0 : 0 ≤ c
  c1 : c ≤ 1000000000
  l0 : 0 ≤ l
  l1 : l ≤ c
  s0 : 0 ≤ s
  s1 : s ≤ 1000000000
  d0 : ∀ i : Nat, 0 ≤ xs[i]?.getD 0
  d1 : ∀ i : Nat, xs[i]?.getD 0 ≤ 1000000000
  n1 : xs.length ≤ 2000

theorem Okay.lv {c l s q : Int} {xs : List Int} (h : Okay c l s q xs) : ∀ k, 0 ≤ lvAt c s l xs k ∧ lvAt c s l xs k ≤ c
  | 0 => ⟨h.l0, h.l1⟩
  | k + 1 => by
    have hk := h.lv k
    have := stepF_range hk.1 hk.2 h.s0 h.s1 (h.d0 k) (h.d1 k) h.c1
    exact ⟨this.1, this.2.1⟩
theorem Okay.st {c l s q : Int} {xs : List Int} (h : Okay c l s q xs) (k : Nat) : 0 ≤ (stAt c s l xs k).1 ∧ (stAt c s l xs k).1 ≤ c ∧ 0 ≤ (stAt c s l xs k).2.1 ∧ (stAt c s l xs k).2.1 ≤ 2000000000 ∧ 0 ≤ (stAt c s l xs k).2.2 ∧ (stAt c s l xs k).2.2 ≤ xs[k]?.getD 0 := by
  have hk := h.lv k
  exact stepF_range hk.1 hk.2 h.s0 h.s1 (h.d0 k) (h.d1 k) h.c1

def encS (c s l : Int) (xs : List Int) (i : Fin xs.length) : Array Value := #[.int .i64 (i.val : Int), stV (stAt c s l xs i.val)]

theorem IntSl.at {w : World} {v : Value} {xs : List Int} (h : IntSl w v xs) {k : Nat} (hk : k < xs.length) : ∃ b off cap, v = .slice (some ⟨b, off, none⟩) xs.length cap ∧ w.cell? ⟨b, off + k, none⟩ = some (.int .i64 (xs[k]?.getD 0)) := by
  rcases h with ⟨_, rfl⟩ | ⟨b, off, cap, rfl, hc⟩
  · simp at hk
  · exact ⟨b, off, cap, rfl, hc k hk⟩

set_option maxRecDepth 100000 in
set_option maxHeartbeats 2000000 in
theorem states_stops (n : Nat) (hn : 1 ≤ n) (m : Nat → Prop) (B : Option Nat) (n₀ : Nat) (c l s q : Int) (v : Value) (xs : List Int) (h : Okay c l s q xs) (w : World) (Br Bd : Nat)
    (hr0 : w.cell? ⟨Br, 0, none⟩ = some (.int .i64 c)) (hr1 : w.cell? ⟨Br, 1, none⟩ = some (.int .i64 l)) (hr2 : w.cell? ⟨Br, 2, none⟩ = some (.int .i64 s)) (hr3 : w.cell? ⟨Br, 3, none⟩ = some (.int .i64 q))
    (hd : w.cell? ⟨Bd, 0, none⟩ = some v) (hv : IntSl w v xs) (hvn : ∀ b, 0 < xs.length → v.ownBlock = some b → b < n₀)
    (hB : ∀ b, B = some b → b < w.heap.size) (hfp : ∀ k, fpB m B w k → n₀ ≤ k ∧ k ≠ Br ∧ k ≠ Bd ∧ k < w.heap.size) :
    SeqStopsK Fence.wide n Try.prog 46 #[.pointer (some ⟨Br, 0, none⟩), .pointer (some ⟨Bd, 0, none⟩)] (encS c s l xs) (Keeps m B) (fun ys => ys = List.finRange xs.length) (fun pre => pre <+: List.finRange xs.length) xs.length w := by
  intro j J Jx W hW hJ hJx hY h0
  have hWs := hW.size
  have hBW : ∀ b, B = some b → b < W.heap.size := fun b hb => Nat.lt_of_lt_of_le (hB b hb) hWs
  have hfpW : ∀ k, fpB m B W k ↔ fpB m B w k := fpB_same (fun b hb => hW.cell (p := ⟨b, 0, none⟩) (hB b hb))
  have kr0 := (hW.cell (p := ⟨Br, 0, none⟩) (lt_of_cell hr0)).trans hr0
  have kr1 := (hW.cell (p := ⟨Br, 1, none⟩) (lt_of_cell hr1)).trans hr1
  have kr2 := (hW.cell (p := ⟨Br, 2, none⟩) (lt_of_cell hr2)).trans hr2
  have kr3 := (hW.cell (p := ⟨Br, 3, none⟩) (lt_of_cell hr3)).trans hr3
  have kd := (hW.cell (p := ⟨Bd, 0, none⟩) (lt_of_cell hd)).trans hd
  obtain ⟨a, cap, rfl⟩ := hv.len
  have hn1 := h.n1
  refine callsIn_of_wp Try.func46 rfl trivial ?_ rfl
  simp only [Try.ntmps46, List.size_toArray, List.length_cons, List.length_nil, Nat.reduceAdd, Nat.reduceSub, Array.replicate_succ, Array.replicate_zero, List.push_toArray, List.append_toArray, List.nil_append, List.cons_append]
  gi_wp2
  gi_loopw [4, 12] (fun lv i wr => ∃ k : Nat, k ≤ xs.length ∧ i = .int .i64 k ∧ lv = .int .i64 (lvAt c s l xs k) ∧ J ((List.finRange xs.length).take k) wr ∧ Keeps m B W wr ∧ ∀ i, fpB m B wr i → i < wr.heap.size)
    (fun _ i _ => xs.length - (intOf i).toNat)
  case atStart => exact ⟨0, Nat.zero_le _, rfl, rfl, h0, Keeps.refl _ _ _, fun i hi => by have := (hfp i ((hfpW i).1 hi)).2.2.2; omega⟩
  case round =>
    obtain ⟨k, hk, rfl, rfl, hJs, hK, hfs⟩ := hrel
    by_cases hlt : k < xs.length
    · have nr : ¬ fpB m B W Br := fun hf => (hfp Br ((hfpW Br).1 hf)).2.1 rfl
      have tr0 := hK.cell (p := ⟨Br, 0, none⟩) nr kr0
      have tr1 := hK.cell (p := ⟨Br, 1, none⟩) nr kr1
      have tr2 := hK.cell (p := ⟨Br, 2, none⟩) nr kr2
      have tr3 := hK.cell (p := ⟨Br, 3, none⟩) nr kr3
      obtain ⟨b, off, cap', he, hck⟩ := hv.at hlt
      cases he
      have tck := hK.cell (p := ⟨b, off + k, none⟩) (fun hf => by have h1 := (hfp b ((hfpW b).1 hf)).1; have h2 := hvn b (by omega) rfl; omega) ((hW.cell (p := ⟨b, off + k, none⟩) (lt_of_cell hck)).trans hck)
      have hr := h.lv k
      have hb0 := h.d0 k
      have hb1 := h.d1 k
      have hcc := h.c0; have hc1 := h.c1; have hs0 := h.s0; have hs1 := h.s1
      clear hr0 hr1 hr2 hr3 hck hd hv kr0 kr1 kr2 kr3 kd
      have hxk : (xs[k]?.getD 0) = xs[k] := by simp [hlt]
      have hst : stepF c s (lvAt c s l xs k) (xs[k]?.getD 0) = stAt c s l xs k := rfl
      rw [hxk] at hb0 hb1 tck hst
      generalize xs[k] = d at hb0 hb1 tck hst
      have hst2 := Lib.hid hst
      clear hxk hst
      have hKs := hK.size
      gi_wp2_with (refine ⟨trivial, ?_⟩; gi_at_call 37; refine (callsIn_wide.2 (step_any _ _ _ _ _ _ _ (by omega) (by omega) (by omega) (by omega) (by omega) (by omega) (by omega) (by omega))).mono ?_; rintro e w' ⟨rfl, hb⟩; rw [hst2.out])
      clear tr0 tr1 tr2 tr3 tck
      have hsz := hb.size
      have hbA := hb.trans ((Below.refl wr.heap.size w').alloc hsz (.cells #[.int .i64 (stAt c s l xs k).1, .int .i64 (stAt c s l xs k).2.1, .int .i64 (stAt c s l xs k).2.2] 40))
      have hJw := abides_below hJ hJs hbA
      have hKA := Keeps.grown (m := m) hbA (fun b hb => by have := hBW b hb; omega)
      have hfA : ∀ i, fpB m B (w'.alloc (.cells #[.int .i64 (stAt c s l xs k).1, .int .i64 (stAt c s l xs k).2.1, .int .i64 (stAt c s l xs k).2.2] 40)) i ↔ fpB m B wr i := fpB_same (fun b hb => hbA.cell (p := ⟨b, 0, none⟩) (by have := hBW b hb; show b < wr.heap.size; omega))
      obtain ⟨fn, tmps, assign, body, hy, hR⟩ := hY _ ⟨k, hlt⟩ _ hJw (by simp; omega)
      simp only [encS, stV] at hy
      rw [hy]
      gi_wp2
      refine hR.mono ?_
      rintro e W3 (⟨rfl, hJ3, hk3⟩ | ⟨rfl, hJx3⟩)
      · have hc3 := hk3.cell (p := ⟨w'.heap.size, 0, none⟩) (v := .int .i64 (stAt c s l xs k).1) (fun hf => by have h1 := hfs _ ((hfA _).1 hf); have h2 : w'.heap.size < wr.heap.size := h1; omega) (cell_new w' _ _ 0 _ rfl)
        have hKK := (hK.trans hKA).trans hk3
        have hf3 : ∀ i, fpB m B W3 i → i < W3.heap.size := fun i hi => by
          rcases hk3.foot i hi with h1 | h1
          · have h2 := hfs i ((hfA i).1 h1)
            have := hk3.size
            simp at this
            omega
          · exact h1.2
        clear hy hR hJw hKA hfA hbA hK hfs hfpW hfp
        gi_wp2
        go_roundw
        case rel => exact ⟨k + 1, by omega, by go_num, rfl, by rw [take_fin hlt]; exact hJ3, hKK, hf3⟩
        case measure => simp [intOf]; omega
      · gi_wp2
        refine bodyPost_ret (results_none rfl _ _ _) rfl ?_
        exact ⟨⟨_, rfl⟩, .inr ⟨_, by rw [← take_fin hlt]; exact List.take_prefix _ _, hJx3⟩⟩
    · obtain rfl : k = xs.length := by omega
      gi_wp2
      go_end0
      exact ⟨⟨_, rfl⟩, .inl ⟨_, rfl, by rwa [List.take_of_length_le (by simp)] at hJs⟩⟩

end Go.Proofs.Ytbflocamicebhaa
