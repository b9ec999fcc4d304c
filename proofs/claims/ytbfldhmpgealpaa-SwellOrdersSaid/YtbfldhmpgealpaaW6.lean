/- The contract of the iterator over movements with the stages at which they begin. Conditions: right movements (MvOk). -/
import Derived.Test.YtbfldhmpgealpaaW5
import Derived.Test.YtbfldhmpgealpaaWide
namespace Go.Proofs.Ytbfldhmpgealpaa
open Go.RowKit Go.Shelf
attribute [local go_sem] Oper.semAt_some

/-- right movements of a box of n stages -/
structure MvOk (n : Int) (l : List Mv) : Prop where
  len : l.length ≤ 1000
  n1 : n ≤ 64
  r : ∀ k, k < l.length → MvR n (mv l k)
  o : ∀ k, k + 1 < l.length → (mv l k).t < (mv l (k + 1)).t

theorem mvS_step {n : Int} {l : List Mv} {k : Nat} (h : k < l.length) (h0 : mvS n l k = 0) : MvR n (mv l k) ∧ (k = 0 ∨ (mv l (k - 1)).t < (mv l k).t) ∧ mvS n l (k + 1) = 0 := by
  by_cases h1 : MvR n (mv l k)
  · by_cases h2 : k = 0 ∨ (mv l (k - 1)).t < (mv l k).t
    · exact ⟨h1, h2, by rw [← mvS_next h h1 h2]; exact h0⟩
    · rw [mvS_order h h1 (by omega) (by omega)] at h0
      cases h0
  · rw [mvS_range h h1] at h0
    cases h0
theorem mvS_all {n : Int} {l : List Mv} (h0 : mvS n l 0 = 0) : ∀ k, k ≤ l.length → mvS n l k = 0
  | 0, _ => h0
  | k + 1, h => (mvS_step (by omega) (mvS_all h0 k (by omega))).2.2
theorem mvOk_of {n : Int} {l : List Mv} (hn : n ≤ 64) (h : movesF n l = 0) : MvOk n l := by
  unfold movesF at h
  split at h
  · cases h
  · have := mvS_all h
    exact ⟨by omega, hn, fun k hk => (mvS_step hk (this k (by omega))).1, fun k hk => by have := (mvS_step hk (this (k + 1) (by omega))).2.1; simpa using this⟩

/-- the stage at which the k-th movement begins -/
def stgAt (l : List Mv) : Nat → Int
  | 0 => 0
  | k + 1 => afterF (mv l k) (stgAt l k) (mv l (k + 1)).t
/-- the stage at which the movement before the k-th begins -/
def stgPre (l : List Mv) (k : Nat) : Int := stgAt l (k - 1)

theorem stgAt_bd {n : Int} {l : List Mv} (h : MvOk n l) : ∀ k, k < l.length → 0 ≤ stgAt l k ∧ stgAt l k ≤ n - 1
  | 0, hk => by
    have := h.r 0 hk
    unfold MvR at this
    unfold stgAt
    omega
  | k + 1, hk => by
    have h1 := h.r k (by omega)
    have h2 := h.o k hk
    obtain ⟨h3, h4⟩ := stgAt_bd h k (by omega)
    unfold MvR at h1
    exact afterF_bd (by omega) (by omega) h3 h4 (by omega) (by omega)

def encM (l : List Mv) (i : Fin l.length) : Array Value := #[.int .i64 (stgAt l i.val), mvV (mv l i.val)]

set_option maxHeartbeats 400000 in
theorem stages_any (v : Value) (a : Option Addr) (len cap : Nat) (hv : v = .slice a len cap) (w : World) :
    Calls Try.prog 47 #[v] w fun e w' => e = .returned (.func (.func 52) #[] #[.pointer (some ⟨w.heap.size, 0, none⟩)]) ∧ w.alloc (.cells #[v] 59) = w' := by
  subst hv
  have hmf : ∀ (fn : Fn) (first cap : Array Value) (w : World), (Instr.makeFunc fn first cap).run Try.prog w = .ok (.func fn first cap) w := fun _ _ _ _ => rfl
  go_enter Try.func47, Try.ntmps47
  go_wp2
  go_ret
  exact ⟨rfl, rfl⟩

set_option maxRecDepth 100000 in
set_option maxHeartbeats 2000000 in
theorem stages_stops (n : Nat) (hn : 1 ≤ n) (m : Nat → Prop) (B : Option Nat) (n₀ : Nat) (N : Int) (v : Value) (l : List Mv) (h : MvOk N l) (w : World) (Bd : Nat)
    (hd : w.cell? ⟨Bd, 0, none⟩ = some v) (hv : MvSl w v l) (hvn : ∀ b, 0 < l.length → v.ownBlock = some b → b < n₀)
    (hB : ∀ b, B = some b → b < w.heap.size) (hfp : ∀ k, fpB m B w k → n₀ ≤ k ∧ k ≠ Bd ∧ k < w.heap.size) :
    SeqStopsK Fence.wide n Try.prog 52 #[.pointer (some ⟨Bd, 0, none⟩)] (encM l) (Keeps m B) (fun ys => ys = List.finRange l.length) (fun pre => pre <+: List.finRange l.length) l.length w := by
  intro j J Jx W hW hJ hJx hY h0
  have hWs := hW.size
  have hBW : ∀ b, B = some b → b < W.heap.size := fun b hb => Nat.lt_of_lt_of_le (hB b hb) hWs
  have hfpW : ∀ k, fpB m B W k ↔ fpB m B w k := fpB_same (fun b hb => hW.cell (p := ⟨b, 0, none⟩) (hB b hb))
  have kd := (hW.cell (p := ⟨Bd, 0, none⟩) (lt_of_cell hd)).trans hd
  obtain ⟨a, cap, rfl⟩ := hv.len
  have hn1 := h.len
  refine callsIn_of_wp Try.func52 rfl trivial ?_ rfl
  simp only [Try.ntmps52, List.size_toArray, List.length_cons, List.length_nil, Nat.reduceAdd, Nat.reduceSub, Array.replicate_succ, Array.replicate_zero, List.push_toArray, List.append_toArray, List.nil_append, List.cons_append]
  gi_wp2
  gi_loopw [3, 8] (fun st i wr => ∃ k : Nat, k ≤ l.length ∧ i = .int .i64 k ∧ st = .int .i64 (stgPre l k) ∧ J ((List.finRange l.length).take k) wr ∧ Keeps m B W wr ∧ ∀ i, fpB m B wr i → i < wr.heap.size)
    (fun _ i _ => l.length - (intOf i).toNat)
  case atStart => exact ⟨0, Nat.zero_le _, rfl, rfl, h0, Keeps.refl _ _ _, fun i hi => by have := (hfp i ((hfpW i).1 hi)).2.2; omega⟩
  case round =>
    obtain ⟨k, hk, rfl, rfl, hJs, hK, hfs⟩ := hrel
    by_cases hlt : k < l.length
    · have nr : ¬ fpB m B W Bd := fun hf => (hfp Bd ((hfpW Bd).1 hf)).2.1 rfl
      have td := hK.cell (p := ⟨Bd, 0, none⟩) nr kd
      obtain ⟨b, off, cap', he, hc⟩ := hv.at hlt
      cases he
      have carry : ∀ o u, w.cell? ⟨b, o, none⟩ = some u → wr.cell? ⟨b, o, none⟩ = some u := fun o u hu =>
        hK.cell (p := ⟨b, o, none⟩) (fun hf => by have h1 := (hfp b ((hfpW b).1 hf)).1; have h2 := hvn b (by omega) rfl; omega) ((hW.cell (p := ⟨b, o, none⟩) (lt_of_cell hu)).trans hu)
      have hcw := fun i hi => And.intro (carry _ _ (hc i hi).1) (And.intro (carry _ _ (hc i hi).2.1) (carry _ _ (hc i hi).2.2))
      obtain ⟨c1, c2, c3⟩ := hcw k hlt
      have hr := h.r k hlt
      have hsb := stgAt_bd h k hlt
      have hN := h.n1
      unfold MvR at hr
      have hbm := (Below.refl wr.heap.size wr).alloc (Nat.le_refl _) (.cells #[.int .i64 (mv l k).t, .int .i64 (mv l k).s, .int .i64 (mv l k).p] 64)
      have hJm := abides_below hJ hJs hbm
      by_cases hk0 : 0 < k
      · have hd1 : decide (0 < k) = true := by simpa using hk0
        have hd2 : (((k : Int) - 1).toNat) = k - 1 := by omega
        obtain ⟨c4, c5, c6⟩ := hcw (k - 1) (by omega)
        have hr' := h.r (k - 1) (by omega)
        have ho := h.o (k - 1) (by omega)
        have hsp := stgAt_bd h (k - 1) (by omega)
        unfold MvR at hr'
        have hst : stgAt l k = afterF (mv l (k - 1)) (stgPre l k) (mv l k).t := by
          obtain ⟨j, rfl⟩ : ∃ j, k = j + 1 := ⟨k - 1, by omega⟩
          rfl
        have hpre : stgAt l (k - 1) = stgPre l k := rfl
        rw [show k - 1 + 1 = k by omega] at ho
        rw [hpre] at hsp
        replace hst := Lib.hid hst
        clear hpre hc hcw carry
        gi_wp2_with fail
        have bM := BoxC.new wr 64 #[.int .i64 (mv l k).t, .int .i64 (mv l k).s, .int .i64 (mv l k).p]
        replace td := (hbm.cell (p := ⟨Bd, 0, none⟩) (lt_of_cell td)).trans td
        replace c4 := (hbm.cell (p := ⟨b, _, none⟩) (lt_of_cell c4)).trans c4
        replace c5 := (hbm.cell (p := ⟨b, _, none⟩) (lt_of_cell c5)).trans c5
        replace c6 := (hbm.cell (p := ⟨b, _, none⟩) (lt_of_cell c6)).trans c6
        have hsz := hbm.size
        have hKm := Keeps.grown (m := m) hbm (fun b hb => by have := hBW b hb; have := hK.size; omega)
        have hKW := hK.trans hKm
        have hszm : (wr.alloc (.cells #[.int .i64 (mv l k).t, .int .i64 (mv l k).s, .int .i64 (mv l k).p] 64)).heap.size = wr.heap.size + 1 := by simp
        generalize hW1 : wr.alloc (.cells #[.int .i64 (mv l k).t, .int .i64 (mv l k).s, .int .i64 (mv l k).p] 64) = W1 at hbm hJm bM td c4 c5 c6 hsz hKm hKW hszm ⊢
        clear hW1 c1 c2 c3
        have m0 := bM.cell 0 rfl
        have m1 := bM.cell 1 rfl
        have m2 := bM.cell 2 rfl
        generalize hmk : mv l k = mk at *
        generalize mv l (k - 1) = mp at *
        obtain ⟨t, s, p⟩ := mk
        obtain ⟨t', s', p'⟩ := mp
        replace hmk := Lib.hid hmk
        simp only at hr hr' ho m0 m1 m2 c4 c5 c6 hst bM
        generalize stgPre l k = sp at hsp hst ⊢
        have hw1 : IntKind.i64.wrap ((k : Int) - 1) = (k : Int) - 1 := IntWalk.i64_in _ (by omega)
        have hw2 : (1 : Int) ≤ (k : Int) := by omega
        have hw3 : (k : Int) - 1 < (l.length : Int) := by omega
        refine region_tail_wide 8 (by kernel_rfl) (by kernel_rfl) (by kernel_rfl) ?_
        simp only [List.take_succ_cons, List.take_zero, List.drop_succ_cons, List.drop_zero]
        repeat still_step
        refine wpStill_nil ?_
        clear hw1 hw2 hw3
        have hbd : Below wr.heap.size wr W1.drew := hbm.drew
        have hJd : J ((List.finRange l.length).take k) W1.drew := abides_below hJ hJs hbd
        have hKd : Keeps m B W W1.drew := hK.trans (Keeps.grown hbd (fun b hb => by have := hBW b hb; have := hK.size; omega))
        have bMd := bM.drew
        have hszd : W1.drew.heap.size = wr.heap.size + 1 := hszm
        clear td c4 c5 c6 m0 m1 m2 hbm hJm hKm hKW bM hsz hszm
        generalize W1.drew = W2 at hbd hJd hKd bMd hszd ⊢
        go_wp2_with fail
        refine (after_any t' s' p' sp t _ (by omega) (by omega) (by omega) (by omega) (by omega) (by omega) (by omega) (by omega) (by omega)).mono ?_
        rintro e W3 ⟨rfl, hb3⟩
        rw [← hst.out]
        go_wp2
        refine ⟨by simp, ?_⟩
        have hbX := hbd.trans (hb3.mono hbd.size)
        have hJX := abides_below hJ hJd hb3
        have hKX := hKd.trans (Keeps.grown (m := m) hb3 (fun b hb => by have := hBW b hb; have := hK.size; omega))
        have bX := bMd.grown hb3
        have hszX : wr.heap.size < W3.heap.size := by have := hb3.size; omega
        clear hbd hJd hKd bMd hszd hb3
        have hfA : ∀ i, fpB m B W3 i ↔ fpB m B wr i := fpB_same (fun b hb => hbX.cell (p := ⟨b, 0, none⟩) (by have := hBW b hb; have := hK.size; show b < wr.heap.size; omega))
        have x0 := bX.cell 0 rfl
        have x1 := bX.cell 1 rfl
        have x2 := bX.cell 2 rfl
        gi_wp2_with fail
        obtain ⟨fn, tmps, assign, body, hy, hR⟩ := hY _ ⟨k, hlt⟩ _ hJX (by simp; omega)
        simp only [encM, mvV, hmk.out] at hy
        rw [hy]
        gi_wp2
        refine hR.mono ?_
        rintro e W5 (⟨rfl, hJ5, hk5⟩ | ⟨rfl, hJx5⟩)
        · have hKK := hKX.trans hk5
          have hf5 : ∀ i, fpB m B W5 i → i < W5.heap.size := fun i hi => by
            rcases hk5.foot i hi with h1 | h1
            · have h2 := hfs i ((hfA i).1 h1)
              have := hk5.size
              omega
            · exact h1.2
          clear hy hR hJX hKX hfA hbX hK hfs hfpW hfp x0 x1 x2
          gi_wp2
          go_roundw
          case rel => exact ⟨k + 1, by omega, by go_num, rfl, by rw [take_fin hlt]; exact hJ5, hKK, hf5⟩
          case measure => simp [intOf]; omega
        · gi_wp2
          refine bodyPost_ret (results_none rfl _ _ _) rfl ?_
          exact ⟨⟨_, rfl⟩, .inr ⟨_, by rw [← take_fin hlt]; exact List.take_prefix _ _, hJx5⟩⟩
      · have hd1 : decide (0 < k) = false := by simpa using hk0
        have hsv : stgAt l k = stgPre l k := by
          obtain rfl : k = 0 := by omega
          rfl
        replace hsv := Lib.hid hsv
        have bM := BoxC.new wr 64 #[.int .i64 (mv l k).t, .int .i64 (mv l k).s, .int .i64 (mv l k).p]
        have hKX := hK.trans (Keeps.grown (m := m) hbm (fun b hb => by have := hBW b hb; have := hK.size; omega))
        clear td hc hcw carry
        gi_wp2_with fail
        have hszX : wr.heap.size < (wr.alloc (.cells #[.int .i64 (mv l k).t, .int .i64 (mv l k).s, .int .i64 (mv l k).p] 64)).heap.size := by simp
        generalize hW1 : wr.alloc (.cells #[.int .i64 (mv l k).t, .int .i64 (mv l k).s, .int .i64 (mv l k).p] 64) = W3 at hbm hJm bM hKX hszX ⊢
        clear hW1 c1 c2 c3
        generalize hmk : mv l k = mk at *
        obtain ⟨t, s, p⟩ := mk
        replace hmk := Lib.hid hmk
        simp only at hr bM
        have hbX := hbm
        have hJX := hJm
        have bX := bM
        clear hbm hJm bM
        have hfA : ∀ i, fpB m B W3 i ↔ fpB m B wr i := fpB_same (fun b hb => hbX.cell (p := ⟨b, 0, none⟩) (by have := hBW b hb; have := hK.size; show b < wr.heap.size; omega))
        have x0 := bX.cell 0 rfl
        have x1 := bX.cell 1 rfl
        have x2 := bX.cell 2 rfl
        gi_wp2_with fail
        obtain ⟨fn, tmps, assign, body, hy, hR⟩ := hY _ ⟨k, hlt⟩ _ hJX (by simp; omega)
        simp only [encM, mvV, hmk.out, hsv.out] at hy
        rw [hy]
        gi_wp2
        refine hR.mono ?_
        rintro e W5 (⟨rfl, hJ5, hk5⟩ | ⟨rfl, hJx5⟩)
        · have hKK := hKX.trans hk5
          have hf5 : ∀ i, fpB m B W5 i → i < W5.heap.size := fun i hi => by
            rcases hk5.foot i hi with h1 | h1
            · have h2 := hfs i ((hfA i).1 h1)
              have := hk5.size
              omega
            · exact h1.2
          clear hy hR hJX hKX hfA hbX hK hfs hfpW hfp x0 x1 x2
          gi_wp2
          go_roundw
          case rel => exact ⟨k + 1, by omega, by go_num, by rw [show stgPre l (k + 1) = stgAt l k from rfl, hsv.out], by rw [take_fin hlt]; exact hJ5, hKK, hf5⟩
          case measure => simp [intOf]; omega
        · gi_wp2
          refine bodyPost_ret (results_none rfl _ _ _) rfl ?_
          exact ⟨⟨_, rfl⟩, .inr ⟨_, by rw [← take_fin hlt]; exact List.take_prefix _ _, hJx5⟩⟩
    · obtain rfl : k = l.length := by omega
      gi_wp2
      go_end0
      exact ⟨⟨_, rfl⟩, .inl ⟨_, rfl, by rwa [List.take_of_length_le (by simp)] at hJs⟩⟩
end Go.Proofs.Ytbfldhmpgealpaa
