/- The contracts of slices.Grow of no slice and of slices.Concat. Conditions: at most 1000 numbers. -/
import Derived.Test.YtoendfpfnfeccaaW4
import Derived.Lib.AppendZeros
import Derived.OwnWalk
namespace Go.Proofs.Ytoendfpfnfeccaa
open Go.RowKit Go.Shelf

theorem run_app_none {P : Program} {w : World} {base : Nat} {t ty e : TypeId} {i : TypeInfo} {size : Nat} (ht : P.underlying t = some (.slice e)) (hi : P.info? e = some i)
    (v : Value) (n c : Nat) (xs : List Value) (hown : w.ownsRow base e size v n xs) :
    (Builtin.append_ #[t, t] ty #[v, .slice none 0 c]).run P w = .ok v w := by
  rcases hown.2 with ⟨rfl, rfl⟩ | ⟨g, cap, cur, rfl, _, _, hnc, _⟩
  · simp [Builtin.append_, run_underlying ht, sizeOf, typeInfo, hi, Builtin.lenOf, Builtin.firstCells]
  · simp [Builtin.append_, run_underlying ht, sizeOf, typeInfo, hi, Builtin.lenOf, Builtin.firstCells, hnc, storeCells]
/-- the numbers ys behind a row of a call's own -/
theorem wpList_app {P : Program} (w : World) {ops : Array Oper} {rest : List Oper} {o : Oper} {a : Act} {Q : Exit → Act → World → Prop} (hgd : o.guard = none) (s x : Operand) (t : TypeId)
    (ho : o.op = .call { callee := .builtin .append, args := #[s, x], argTypes := #[t, t] }) (base : Nat) (i : TypeInfo) (z : Value) (ht : P.underlying t = some (.slice 3)) (hi : P.info? 3 = some i) (hz : i.zero = some z)
    (hsize : i.size = 1) (hby : i.bytes = 8) (hzs : z.cells.size = 1) (v : Value) (n : Nat) (xs : List Int) (hs : a.eval s = v) (hown : w.ownsRow base 3 1 v n (xs.map (Value.int .i64)))
    (u : Value) (ys : List Int) (hx : a.eval x = u) (hu : NumSl .i64 w u ys) (hb : n + ys.length ≤ 100000) (hbase : base ≤ w.heap.size)
    (h : ∀ v' w', w'.ownsRow base 3 1 v' (n + ys.length) ((xs ++ ys).map (Value.int .i64)) → w.grownBy w' v.ownBlock → wpList P ops Q rest (a.put o.dst v') w') : wpList P ops Q (o :: rest) a w := by
  rcases hu with ⟨⟨ad, c, rfl⟩, rfl⟩ | ⟨b, off, c, rfl, hc⟩
  · cases ad with
    | none =>
      refine wpList_plain hgd fun _ hK => ?_
      unfold Oper.wp execOp
      simp only [ho, resolve, invoke, builtin, Sem.run_bind, Sem.run_pure, Result.andThen_ok, List.map_toArray, List.map_cons, List.map_nil, hs, hx, run_app_none ht hi v n c _ hown]
      exact hK _ _ (h v w (by simpa using hown) (World.grownBy.refl _ _))
    | some ad =>
      refine wpList_append_own w hgd s x t ho base 3 i z 1 8 ht hi hz hsize hby hzs (by decide) v n _ hs hown ad 0 c [] hx rfl (by simp) (by simp) (by unfold maxLen; omega) (by omega) hbase (fun v' w' h1 h2 _ => h v' w' (by simpa using h1) h2)
  · refine wpList_append_own w hgd s x t ho base 3 i z 1 8 ht hi hz hsize hby hzs (by decide) v n _ hs hown ⟨b, off, none⟩ ys.length c (ys.map (Value.int .i64)) hx (by simp) (news_of (.inr ⟨b, off, c, rfl, hc⟩)) (ints_oneCell _ _) (by unfold maxLen; omega) (by omega) hbase (fun v' w' h1 h2 _ => h v' w' (by simpa using h1) h2)
theorem ownsRow_num {w : World} {base : Nat} {v : Value} {xs : List Int} (h : w.ownsRow base 3 1 v xs.length (xs.map (Value.int .i64))) : NumSl .i64 w v xs := by
  rcases h.2 with ⟨rfl, h0⟩ | ⟨g, cap, cur, rfl, _, h3, _⟩
  · exact .inl ⟨⟨_, _, rfl⟩, List.eq_nil_of_length_eq_zero h0⟩
  · refine .inr ⟨g, 0, cap, rfl, fun i hi => ?_⟩
    rw [Nat.zero_add, h.cellAt i (by omega)]
    simp [hi, nth_lt hi]

/-- behind Grow: no element, some room -/
def GrowPost (w : World) : Ending → World → Prop := fun e w' => ∃ a c, e = .returned (.slice a 0 c) ∧ w'.ownsRow w.heap.size 3 1 (.slice a 0 c) 0 [] ∧ Below w.heap.size w w'
set_option maxHeartbeats 1000000 in
theorem grow_any (k : Nat) (w : World) (hk : k ≤ 1000) : Calls Try.prog 52 #[.slice none 0 0, .int .i64 (k : Int)] w (GrowPost w) := by
  obtain ⟨i0, hi, hz0, hz1, hz2⟩ := info_parts info3
  rcases Nat.eq_zero_or_pos k with h0 | h0
  · subst h0
    go_enter Try.func52, Try.ntmps52
    go_wp2
    go_ret
    exact ⟨none, 0, rfl, World.ownsRow_nil _ _ _ _, Below.refl _ _⟩
  · have hr := Lib.run_append_nil_zeros (P := Try.prog) w 24 3 24 3 i0 (.int .i64 0) .i64 .i64 Try.underlying24 Try.underlying3 hi hz0 k h0 (by omega) (by omega) (by rw [hz2]; omega)
    have hkb : decide ((0 : Int) < (k : Int)) = true := decide_eq_true (by omega)
    have hge := grownCap_ge w k 0 3
    have hle := grownCap_le_maxLen w k 0 3 (by unfold maxLen; omega)
    generalize hc : grownCap w k 0 3 = c at hr hge hle
    have hown : (w.drew.alloc (.cells (Builtin.zeroCells (Value.int .i64 0).cells k ++ Builtin.zeroCells (Value.int .i64 0).cells (c - k)) 3)).ownsRow w.heap.size 3 1 (.slice (some ⟨w.heap.size, 0, none⟩) 0 c) 0 [] :=
      ⟨rfl, .inr ⟨w.heap.size, c, _, rfl, Nat.le_refl _, by simpa using World.alloc_heap_new w.drew _, by omega, hle, by simp [size_zeroCells, Value.cells]; omega, by simp⟩⟩
    have hb : Below w.heap.size w (w.drew.alloc (.cells (Builtin.zeroCells (Value.int .i64 0).cells k ++ Builtin.zeroCells (Value.int .i64 0).cells (c - k)) 3)) := (Below.refl _ w).drew.alloc (Nat.le_refl _) _
    generalize w.drew.alloc (.cells (Builtin.zeroCells (Value.int .i64 0).cells k ++ Builtin.zeroCells (Value.int .i64 0).cells (c - k)) 3) = w1 at hr hown hb
    unfold maxLen at hle
    clear hc
    go_enter Try.func52, Try.ntmps52
    go_wp2_with (at_builtin; refine Lib.wpList_append_run _ rfl _ _ _ _ rfl _ _ rfl rfl _ _ hr ?_)
    go_ret
    exact ⟨_, c, rfl, hown, hb⟩

/-- how many numbers the first k lists hold, and which -/
def joinTo (xss : List (List Int)) : Nat → List Int
  | 0 => []
  | k + 1 => joinTo xss k ++ nths xss k
def NumPost (xs : List Int) (w : World) : Ending → World → Prop := fun e w' => ∃ u, e = .returned u ∧ NumSl .i64 w' u xs ∧ Below w.heap.size w w'
theorem joinTo_mono (xss : List (List Int)) {k n : Nat} (h : k ≤ n) : (joinTo xss k).length ≤ (joinTo xss n).length := by
  induction n with
  | zero => obtain rfl : k = 0 := by omega
            exact Nat.le_refl _
  | succ n ih =>
    rcases Nat.lt_or_ge n k with h1 | h1
    · obtain rfl : k = n + 1 := by omega
      exact Nat.le_refl _
    · have := ih h1
      simp only [joinTo, List.length_append]
      omega
set_option maxHeartbeats 2000000 in
theorem concat_any (v : Value) (xss : List (List Int)) (w : World) (hv : SlSl w v xss) (hl : xss.length ≤ 1000) (hj : (joinTo xss xss.length).length ≤ 1000) : Calls Try.prog 46 #[v] w (NumPost (joinTo xss xss.length) w) := by
  obtain ⟨i0, hi, hz0, hz1, hz2⟩ := info_parts info3
  have hv0 := Lib.hid hv
  obtain ⟨a, c, rfl⟩ := hv.len
  generalize hn : xss.length = n at hl hj ⊢
  replace hn := Lib.hid hn
  clear hv
  go_enter Try.func46, Try.ntmps46
  go_wp2
  go_loop [3, 11] (fun s i => ∃ k : Nat, k ≤ n ∧ i = .int .i64 k ∧ s = .int .i64 ((joinTo xss k).length : Int)) (fun _ i => n - (intOf i).toNat)
  case atStart => exact ⟨0, Nat.zero_le _, rfl, rfl⟩
  case round =>
    obtain ⟨k, hk, rfl, rfl⟩ := hrel
    have hjk := joinTo_mono xss hk
    by_cases hlt : k < n
    · have hkb : decide ((k : Int) < (n : Int)) = true := decide_eq_true (by omega)
      have hjs := joinTo_mono xss (show k + 1 ≤ n by omega)
      obtain ⟨b, off, cap, he, _, hc⟩ := hv0.out.atN hn.out hlt
      cases he
      obtain ⟨u, cu, hu⟩ := hc k hlt
      obtain ⟨au, cpu, rfl⟩ := hu.len
      have hls : (joinTo xss (k + 1)).length = (joinTo xss k).length + (nths xss k).length := by simp [joinTo]
      have hsum : Hid (((joinTo xss k).length : Int) + ((nths xss k).length : Int) = ((joinTo xss (k + 1)).length : Int)) := by rw [hls]; exact (Int.natCast_add _ _).symm
      rw [hls] at hjs
      clear hc hu hls
      generalize (nths xss k).length = m at cu hsum hjs
      generalize (joinTo xss k).length = q at hsum hjk hjs ⊢
      have hnn : decide ((q : Int) + (m : Int) < 0) = false := decide_eq_false (by omega)
      go_wp2
      go_round
      case rel => exact ⟨k + 1, by omega, by go_num, by rw [← hsum.out]⟩
      case measure => simp [intOf]; omega
    · obtain rfl : k = n := by omega
      go_wp2_with fail
      refine (grow_any _ _ (by omega)).mono ?_
      rintro e w1 ⟨ag, cg, rfl, hown, hB⟩
      go_wp2_with fail
      go_loopw [6, 27] (fun s i wr => ∃ q : Nat, q ≤ k ∧ i = .int .i64 q ∧ wr.ownsRow w.heap.size 3 1 s (joinTo xss q).length ((joinTo xss q).map (Value.int .i64)) ∧ Below w.heap.size w wr) (fun _ i _ => k - (intOf i).toNat)
      case atStart => exact ⟨0, Nat.zero_le _, rfl, hown, hB⟩
      case round =>
        clear hown hB
        obtain ⟨q, hq, rfl, hown, hB⟩ := hrel
        have hjq := joinTo_mono xss hq
        by_cases hlq : q < k
        · have hqb : decide ((q : Int) < (k : Int)) = true := decide_eq_true (by omega)
          have hjs := joinTo_mono xss (show q + 1 ≤ k by omega)
          obtain ⟨b, off, cap, he, _, hc⟩ := (hv0.out.mono hB).atN hn.out hlq
          cases he
          obtain ⟨u, cu, hu⟩ := hc q hlq
          have hls : (joinTo xss (q + 1)).length = (joinTo xss q).length + (nths xss q).length := by simp [joinTo]
          rw [hls] at hjs
          have hbs := hB.size
          replace hls := Lib.hid hls
          clear hc
          go_wp2_with (at_builtin; refine wpList_app _ rfl _ _ 24 rfl w.heap.size i0 _ Try.underlying24 hi hz0 hz1 hz2 rfl _ _ _ rfl hown _ _ rfl hu (by omega) (by omega) ?_; intro v2 w2 hown2 hgr)
          have hB2 := hB.grown hgr hbs (fun g e => by rcases hown.2 with ⟨h1, _⟩ | ⟨g', cap', cur', h1, h2, _⟩
                                                      · rw [h1] at e; cases e
                                                      · rw [h1] at e; cases e; exact h2)
          go_roundw
          case rel => exact ⟨q + 1, by omega, by go_num, by rw [hls.out]; exact hown2, hB2⟩
          case measure => simp [intOf]; omega
        · obtain rfl : q = k := by omega
          have hnum := ownsRow_num hown
          clear hown
          go_wp2
          go_ret
          exact ⟨_, rfl, hnum, hB⟩
end Go.Proofs.Ytoendfpfnfeccaa
