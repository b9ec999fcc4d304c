/- The contracts of bits.Mul by one, and of slices.Repeat of one number. Conditions: at most 1000 times. -/
import Derived.Test.YtoendfpfnfeccaaW1
import Derived.Laws.BitsAllLaws
import Derived.Laws.CopyOwn
import Derived.Test.YtoendfpfnfeccaaSteps
namespace Go.Proofs.Ytoendfpfnfeccaa
open Go.RowKit Go.Shelf

theorem info3 : (Try.prog.info? 3).map (fun i => (i.zero, i.size, i.bytes)) = some (some (.int .i64 0), 1, 8) := by kernel_rfl
theorem low32 (c : Nat) (h : c ≤ 1000) : bits BinOp.and IntKind.u64 (c : Int) 4294967295 = c := by
  have := u64_and_nat c 4294967295 (by omega) (by omega)
  rw [show ((4294967295 : Nat) : Int) = 4294967295 from rfl] at this
  rw [this]
  have e : c &&& 4294967295 = c % 2 ^ 32 := Nat.and_two_pow_sub_one_eq_mod c 32
  rw [e, Nat.mod_eq_of_lt (by omega)]

set_option maxHeartbeats 1000000 in
theorem mul64_any (c : Nat) (hc : c ≤ 1000) (w : World) : Calls Try.prog 51 #[.int .u64 1, .int .u64 c] w fun e w' => e = .returned (.tuple #[.int .u64 0, .int .u64 c]) ∧ w = w' := by
  have h1 : bits BinOp.and IntKind.u64 1 4294967295 = 1 := by decide +kernel
  have h0 : bits BinOp.and IntKind.u64 0 4294967295 = 0 := by decide +kernel
  have hc1 := low32 c hc
  have hd : (c : Int) / 4294967296 = 0 := by omega
  go_enter Try.func51, Try.ntmps51
  go_wp2
  exact bodyPost_ret (v := .tuple #[.int .u64 0, .int .u64 c]) (by simp [results, Try.results51, go_sem]) rfl ⟨rfl, rfl⟩

set_option maxHeartbeats 1000000 in
theorem mul_any (c : Nat) (hc : c ≤ 1000) (w : World) : Calls Try.prog 45 #[.int .u64 1, .int .u64 c] w fun e w' => e = .returned (.tuple #[.int .u64 0, .int .u64 c]) ∧ w = w' := by
  have hm := Lib.hid (mul64_any c hc w)
  go_enter Try.func45, Try.ntmps45
  go_wp2_with fail
  refine hm.out.mono ?_
  rintro e w' ⟨rfl, rfl⟩
  go_wp2
  exact bodyPost_ret (v := .tuple #[.int .u64 0, .int .u64 c]) (by simp [results, Try.results45, go_sem]) rfl ⟨rfl, rfl⟩

theorem run_make24 (n : Nat) (hn : n ≤ 1000) (X : World) : (Instr.makeSlice 24 (.int .i64 (n : Int)) (.int .i64 (n : Int))).run Try.prog X = .ok (.slice (some ⟨X.heap.size, 0, none⟩) n n) (X.alloc (.cells (madeCells #[.int .i64 0] n) 3)) := by
  obtain ⟨i0, hi, hz0, hz1, hz2⟩ := info_parts info3
  have := run_make (P := Try.prog) X 24 3 i0 (.int .i64 0) Try.underlying24 hi hz0 .i64 .i64 n n (by omega) (by omega) (by rw [hz2]; omega) (by omega)
  rw [hz1] at this
  simpa [Value.cells] using this

/-- a row of c cells of which the first n hold z -/
def Rep (W : World) (g c n : Nat) (z : Int) : Prop := ∃ cur : List Value, W.heap[g]? = some (.cells cur.toArray 3 (0, 0)) ∧ cur.length = c ∧ ∀ i, i < n → cur[i]? = some (.int .i64 z)
theorem run_rep {w X : World} {g c n k : Nat} {z : Int} (hR : Rep X g c n z) (hB : Below g w X) (hn : 1 ≤ n) (hlt : n < c) (hk : k = Nat.min n (c - n)) :
    ∃ X', (Builtin.copy_ #[24, 24] 3 #[.slice (some ⟨g, n, none⟩) (c - n) (c - n), .slice (some ⟨g, 0, none⟩) n c]).run Try.prog X = .ok (.int .i64 k) X' ∧ Rep X' g c (n + k) z ∧ Below g w X' ∧ ∀ q, Rep X g c q z → Rep X' g c q z := by
  obtain ⟨cur, hg, hcl, hcz⟩ := hR
  have hkb : 1 ≤ k ∧ n + k ≤ c ∧ k ≤ n := by
    rw [hk]
    show 1 ≤ min n (c - n) ∧ n + min n (c - n) ≤ c ∧ min n (c - n) ≤ n
    omega
  have hlen : (List.replicate k (Value.int .i64 z)).length = k := by simp
  have hrun := run_copy_row (P := Try.prog) X 24 24 3 3 g n (c - n) (c - n) ⟨g, 0, none⟩ n c cur.toArray 3 (List.replicate k (.int .i64 z)) Try.underlying24 (by kernel_rfl) hg (by simp [hk]) (fun j v hv => by
    rw [List.getElem?_replicate] at hv
    split at hv
    · cases hv
      rw [WideShapes.add_plain]
      show X.cell? ⟨g, 0 + j, none⟩ = _
      rw [Nat.zero_add]
      have hbx : BoxC X g 3 cur.toArray := hg
      exact hbx.cell j (by simpa using hcz j (by omega))
    · cases hv) (by simp; omega) (fun v hv => by
    have := (List.mem_replicate.1 hv).2
    subst this
    simp [Value.oneCell'])
  rw [hlen] at hrun
  have hsp : (splice cur n (List.replicate k (Value.int .i64 z))).length = c := by rw [length_splice _ _ _ (by simp; omega), hcl]
  have hat : ∀ i, (splice cur n (List.replicate k (Value.int .i64 z)))[i]? = if n ≤ i ∧ i < n + k then some (.int .i64 z) else cur[i]? := fun i => by
    unfold splice
    rcases Nat.lt_or_ge i n with h1 | h1
    · rw [List.getElem?_append_left (by simp; omega), List.getElem?_take, if_pos h1, if_neg (by omega)]
    · rw [List.getElem?_append_right (by simp; omega)]
      rcases Nat.lt_or_ge i (n + k) with h2 | h2
      · rw [List.getElem?_append_left (by simp; omega), List.getElem?_replicate, if_pos (by simp; omega), if_pos ⟨h1, h2⟩]
      · rw [List.getElem?_append_right (by simp; omega), List.getElem?_drop, if_neg (by omega)]
        congr 1
        simp
        omega
  have hheap : (X.setRow g (cur.take n ++ (List.replicate k (Value.int .i64 z) ++ cur.drop (n + k))).toArray).heap[g]? = some (.cells (splice cur n (List.replicate k (Value.int .i64 z))).toArray 3 (0, 0)) := by
    have := setRow_heap X g cur.toArray (cur.take n ++ (List.replicate k (Value.int .i64 z) ++ cur.drop (n + k))).toArray 3 _ hg
    rw [this]
    simp [splice]
  refine ⟨_, by simpa [goInt] using hrun, ⟨_, hheap, hsp, fun i hi => ?_⟩, below_setRow hB (Nat.le_refl _) _, fun q hq => ?_⟩
  · rw [hat]
    split
    · rfl
    · exact hcz i (by omega)
  · obtain ⟨cur', h1, h2, h3⟩ := hq
    rw [hg] at h1
    have : cur = cur' := by simpa using h1
    subst this
    refine ⟨_, hheap, hsp, fun i hi => ?_⟩
    rw [hat]
    split
    · rfl
    · exact h3 i hi
def rep9 (g c n k : Nat) (z : Int) : Nat → Value → World → Prop
  | 0, v, _ => v = .int .i64 n
  | 1, v, _ => v = .slice (some ⟨g, 0, none⟩) c c
  | 2, v, _ => v = .int .i64 n
  | 3, v, _ => v = .slice (some ⟨g, n, none⟩) (c - n) (c - n)
  | 4, v, _ => v = .slice (some ⟨g, 0, none⟩) c c
  | 5, v, _ => v = .int .i64 n
  | 6, v, _ => v = .slice (some ⟨g, 0, none⟩) n c
  | 7, v, X => v = .int .i64 k ∧ Rep X g c (n + k) z
  | 8, v, _ => v = .int .i64 ((n : Int) + k)
  | _, _, _ => True
theorem rep9_mono {g c n k : Nat} {z : Int} {X X' : World} (hR : ∀ q, Rep X g c q z → Rep X' g c q z) : ∀ (i : Nat) (v : Value), rep9 g c n k z i v X → rep9 g c n k z i v X'
  | 0, _, h => h
  | 1, _, h => h
  | 2, _, h => h
  | 3, _, h => h
  | 4, _, h => h
  | 5, _, h => h
  | 6, _, h => h
  | 7, _, h => ⟨h.1, hR _ h.2⟩
  | 8, _, h => h
  | _ + 9, _, _ => trivial
def RepReg (g c q : Nat) (z : Int) (w : World) (F : (Nat → Value) → Array Value) : Exit → Act → World → Prop := fun e a X => e = .normal ∧ ∃ s : Nat → Value, a = { tmps := F s, defers := [] } ∧ Rep X g c q z ∧ Below g w X
/-- behind Repeat: a row of its own -/
def RepPost (z : Int) (c : Nat) (w : World) (e : Ending) (w' : World) : Prop :=
  ∃ g, e = .returned (.slice (some ⟨g, 0, none⟩) c c) ∧ RowG w.heap.size g (.slice (some ⟨g, 0, none⟩) c c) c (List.replicate c z) w' ∧ Below w.heap.size w w'

set_option maxRecDepth 100000 in
set_option maxHeartbeats 2000000 in
theorem repeat_any (b : Nat) (z : Int) (c : Nat) (hc1 : 1 ≤ c) (hc : c ≤ 1000) (w : World) (hb : w.cell? ⟨b, 0, none⟩ = some (.int .i64 z)) :
    Calls Try.prog 38 #[.slice (some ⟨b, 0, none⟩) 1 1, .int .i64 c] w (RepPost z c w) := by
  have hm := Lib.hid (fun W => mul_any c hc W)
  have hmk := run_make24 c hc
  go_enter Try.func38, Try.ntmps38
  have d0 : decide ((c : Int) < 0) = false := decide_eq_false (by omega)
  have d1 : decide ((9223372036854775807 : Int) < (c : Int)) = false := decide_eq_false (by omega)
  have hci : (c : Int) ≤ 1000 := by omega
  have hsz : (Try.prog.info? 3).map (·.size) = some 1 := by kernel_rfl
  have hb1 := (Below.refl w.heap.size w).alloc (Nat.le_refl _) (.cells (madeCells #[.int .i64 0] c) 3)
  have hsrc : ∀ (j : Nat) (v : Value), [Value.int .i64 z][j]? = some v → (w.alloc (.cells (madeCells #[.int .i64 0] c) 3)).cell? ((⟨b, 0, none⟩ : Addr).add j) = some v := fun j v h => by
    cases j with
    | zero => simp at h; subst h; exact (hb1.cell (p := ⟨b, 0, none⟩) (lt_of_cell hb)).trans hb
    | succ j => simp at h
  have hg1 : (w.alloc (.cells (madeCells #[.int .i64 0] c) 3)).heap[w.heap.size]? = some (.cells (List.replicate c (Value.int .i64 0)).toArray 3 (0, 0)) := by
    rw [World.alloc_heap_new]
    congr 2
    rw [← Array.toList_inj, toList_madeCells_one]
  have hmin : ([Value.int .i64 z] : List Value).length = Nat.min 1 c := by simp [Nat.min_def]; omega
  replace hsrc := Lib.hid hsrc
  replace hg1 := Lib.hid hg1
  replace hmin := Lib.hid hmin
  replace hsz := Lib.hid hsz
  go_wp2_with fail
  refine (hm.out _).mono ?_
  rintro e w' ⟨rfl, rfl⟩
  go_wp2_with (with_reducible refine wpList_copy_splice rfl (.tmp 31) (.tmp 32) 24 24 rfl 3 Try.underlying24 hsz.out _ _ c c 1 1 rfl rfl w.heap.size 0 (List.replicate c (.int .i64 0)) 3 hg1.out [.int .i64 z] hmin.out (fun _ => ⟨rfl, _, rfl, hsrc.out⟩) (by simp; omega) (by simp [Value.oneCell']) w.heap.size w hb1 (Nat.le_refl _) ?_; intro w4 hg4 hb4)
  have hR : Rep w4 w.heap.size c 1 z := by
    refine ⟨_, hg4.out, ?_, fun i hi => ?_⟩
    · rw [length_splice _ _ _ (by simp; omega)]; simp
    · obtain rfl : i = 0 := by omega
      simp [splice]
  clear hg4 hg1 hmin hsrc hb1 hm
  have hws : w.heap.size < w4.heap.size := by
    obtain ⟨cur, h1, _⟩ := hR
    exact heap_lt h1
  go_loopw [8] (fun nv W => ∃ n : Nat, 1 ≤ n ∧ n ≤ c ∧ nv = .int .i64 n ∧ Rep W w.heap.size c n z ∧ Below w.heap.size w W) (fun nv _ => c - (intOf nv).toNat)
  case atStart => exact ⟨1, Nat.le_refl _, hc1, rfl, hR, hb4⟩
  case round =>
    clear hR hb4
    obtain ⟨n, hn1, hnc, rfl, ⟨cur, hg, hcl, hcz⟩, hB⟩ := hrel
    by_cases hlt : n < c
    · have hki : (n : Int) < (c : Int) := by omega
      obtain ⟨k, hk⟩ : ∃ k, k = Nat.min n (c - n) := ⟨_, rfl⟩
      have hkb : 1 ≤ k ∧ n + k ≤ c ∧ k ≤ n := by
        rw [hk]
        show 1 ≤ min n (c - n) ∧ n + min n (c - n) ≤ c ∧ min n (c - n) ≤ n
        omega
      have hkc : ((n : Int) + k) ≤ c := by omega
      have e1 : IntKind.i64.wrap ((n : Int) + k) = n + k := IntWalk.i64_in _ (by omega)
      replace hk := Lib.hid hk
      have hR0 : Rep wr w.heap.size c n z := ⟨cur, hg, hcl, hcz⟩
      clear hcz hcl hg
      go_wp2_with fail
      refine Code.wp_mono ?post (region_steps (Q := RepReg w.heap.size c (n + k) z w (fun s => #[.slice (some ⟨b, 0, none⟩) 1 1, .int .i64 (c : Int), undef, undef, .slice none 0 0, .int .u64 0, .int .u64 (c : Int), .slice (some ⟨w.heap.size, 0, none⟩) c c, .int .i64 ((n : Int) + k), .int .i64 (c : Int), .bool false, undef, .tuple #[.int .u64 0, .int .u64 (c : Int)], .slice (some ⟨b, 0, none⟩) 1 1, .int .i64 1, .int .u64 1, .int .i64 (c : Int), .int .u64 (c : Int), .tuple #[.int .u64 0, .int .u64 (c : Int)], .int .u64 0, .int .u64 (c : Int), .int .u64 0, .bool false, .bool false, .int .u64 (c : Int), .bool false, .bool false, undef, .int .u64 (c : Int), .int .i64 (c : Int), .slice (some ⟨w.heap.size, 0, none⟩) c c, .slice (some ⟨w.heap.size, 0, none⟩) c c, .slice (some ⟨b, 0, none⟩) 1 1, .int .i64 1, .int .i64 (n : Int), .slice (some ⟨w.heap.size, 0, none⟩) c c, .int .i64 (c : Int), .bool true, s 0, s 1, s 2, s 3, s 4, s 5, s 6, s 7, s 8, undef])) 9 (fun s => #[.slice (some ⟨b, 0, none⟩) 1 1, .int .i64 (c : Int), undef, undef, .slice none 0 0, .int .u64 0, .int .u64 (c : Int), .slice (some ⟨w.heap.size, 0, none⟩) c c, .int .i64 (n : Int), .int .i64 (c : Int), .bool false, undef, .tuple #[.int .u64 0, .int .u64 (c : Int)], .slice (some ⟨b, 0, none⟩) 1 1, .int .i64 1, .int .u64 1, .int .i64 (c : Int), .int .u64 (c : Int), .tuple #[.int .u64 0, .int .u64 (c : Int)], .int .u64 0, .int .u64 (c : Int), .int .u64 0, .bool false, .bool false, .int .u64 (c : Int), .bool false, .bool false, undef, .int .u64 (c : Int), .int .i64 (c : Int), .slice (some ⟨w.heap.size, 0, none⟩) c c, .slice (some ⟨w.heap.size, 0, none⟩) c c, .slice (some ⟨b, 0, none⟩) 1 1, .int .i64 1, .int .i64 (n : Int), .slice (some ⟨w.heap.size, 0, none⟩) c c, .int .i64 (c : Int), .bool true, s 0, s 1, s 2, s 3, s 4, s 5, s 6, s 7, s 8, undef]) (fun i => [u38, u39, u40, u41, u42, u43, u44, u45, u46].getD i undef) [] (rep9 w.heap.size c n k z) (fun X => Rep X w.heap.size c n z ∧ Below w.heap.size w X) (fun X X' => ∀ q, Rep X w.heap.size c q z → Rep X' w.heap.size c q z) (by kernel_rfl) (by kernel_rfl) ⟨hR0, hB.drew⟩ ?step (fun j u X X' _ h hR => rep9_mono hR j u h) ?tail)
      case step =>
        intro i o hi ho s X hb hd
        match i, hi with
        | 0, _ =>
          simp at ho
          subst ho
          refine wp_val (v := .int .i64 n) (X' := X) (by simp [execOp, go_sem]) ⟨_, by simp [Act.put, upd], hb, rfl, fun _ h => h⟩
        | 1, _ =>
          simp at ho
          subst ho
          refine wp_val (v := .slice (some ⟨w.heap.size, 0, none⟩) c c) (X' := X) (by simp [execOp, go_sem]) ⟨_, by simp [Act.put, upd], hb, rfl, fun _ h => h⟩
        | 2, _ =>
          simp at ho
          subst ho
          refine wp_val (v := .int .i64 n) (X' := X) (by simp [execOp, go_sem]) ⟨_, by simp [Act.put, upd], hb, rfl, fun _ h => h⟩
        | 3, _ =>
          simp at ho
          subst ho
          simp at hd
          obtain ⟨h1, h2⟩ := hd
          have h1' : s 1 = .slice (some ⟨w.heap.size, 0, none⟩) c c := h1
          have h2' : s 2 = .int .i64 n := h2
          refine wp_val (v := .slice (some ⟨w.heap.size, n, none⟩) (c - n) (c - n)) (X' := X) (by simp [execOp, go_sem, h1', h2', hnc]; try omega) ⟨_, by simp [Act.put, upd], hb, rfl, fun _ h => h⟩
        | 4, _ =>
          simp at ho
          subst ho
          refine wp_val (v := .slice (some ⟨w.heap.size, 0, none⟩) c c) (X' := X) (by simp [execOp, go_sem]) ⟨_, by simp [Act.put, upd], hb, rfl, fun _ h => h⟩
        | 5, _ =>
          simp at ho
          subst ho
          refine wp_val (v := .int .i64 n) (X' := X) (by simp [execOp, go_sem]) ⟨_, by simp [Act.put, upd], hb, rfl, fun _ h => h⟩
        | 6, _ =>
          simp at ho
          subst ho
          simp at hd
          obtain ⟨h1, h2⟩ := hd
          have h1' : s 4 = .slice (some ⟨w.heap.size, 0, none⟩) c c := h1
          have h2' : s 5 = .int .i64 n := h2
          refine wp_val (v := .slice (some ⟨w.heap.size, 0, none⟩) n c) (X' := X) (by simp [execOp, go_sem, h1', h2', hnc]; try omega) ⟨_, by simp [Act.put, upd], hb, rfl, fun _ h => h⟩
        | 7, _ =>
          simp at ho
          subst ho
          simp at hd
          obtain ⟨h3, h6⟩ := hd
          have h3' : s 3 = .slice (some ⟨w.heap.size, n, none⟩) (c - n) (c - n) := h3
          have h6' : s 6 = .slice (some ⟨w.heap.size, 0, none⟩) n c := h6
          have hE0 : ({ tmps := #[.slice (some ⟨b, 0, none⟩) 1 1, .int .i64 (c : Int), undef, undef, .slice none 0 0, .int .u64 0, .int .u64 (c : Int), .slice (some ⟨w.heap.size, 0, none⟩) c c, .int .i64 (n : Int), .int .i64 (c : Int), .bool false, undef, .tuple #[.int .u64 0, .int .u64 (c : Int)], .slice (some ⟨b, 0, none⟩) 1 1, .int .i64 1, .int .u64 1, .int .i64 (c : Int), .int .u64 (c : Int), .tuple #[.int .u64 0, .int .u64 (c : Int)], .int .u64 0, .int .u64 (c : Int), .int .u64 0, .bool false, .bool false, .int .u64 (c : Int), .bool false, .bool false, undef, .int .u64 (c : Int), .int .i64 (c : Int), .slice (some ⟨w.heap.size, 0, none⟩) c c, .slice (some ⟨w.heap.size, 0, none⟩) c c, .slice (some ⟨b, 0, none⟩) 1 1, .int .i64 1, .int .i64 (n : Int), .slice (some ⟨w.heap.size, 0, none⟩) c c, .int .i64 (c : Int), .bool true, s 0, s 1, s 2, s 3, s 4, s 5, s 6, s 7, s 8, undef], defers := [] } : Act).eval (.tmp 41) = .slice (some ⟨w.heap.size, n, none⟩) (c - n) (c - n) := by simpa [go_sem] using h3'
          have hE1 : ({ tmps := #[.slice (some ⟨b, 0, none⟩) 1 1, .int .i64 (c : Int), undef, undef, .slice none 0 0, .int .u64 0, .int .u64 (c : Int), .slice (some ⟨w.heap.size, 0, none⟩) c c, .int .i64 (n : Int), .int .i64 (c : Int), .bool false, undef, .tuple #[.int .u64 0, .int .u64 (c : Int)], .slice (some ⟨b, 0, none⟩) 1 1, .int .i64 1, .int .u64 1, .int .i64 (c : Int), .int .u64 (c : Int), .tuple #[.int .u64 0, .int .u64 (c : Int)], .int .u64 0, .int .u64 (c : Int), .int .u64 0, .bool false, .bool false, .int .u64 (c : Int), .bool false, .bool false, undef, .int .u64 (c : Int), .int .i64 (c : Int), .slice (some ⟨w.heap.size, 0, none⟩) c c, .slice (some ⟨w.heap.size, 0, none⟩) c c, .slice (some ⟨b, 0, none⟩) 1 1, .int .i64 1, .int .i64 (n : Int), .slice (some ⟨w.heap.size, 0, none⟩) c c, .int .i64 (c : Int), .bool true, s 0, s 1, s 2, s 3, s 4, s 5, s 6, s 7, s 8, undef], defers := [] } : Act).eval (.tmp 44) = .slice (some ⟨w.heap.size, 0, none⟩) n c := by simpa [go_sem] using h6'
          obtain ⟨X', hrun, r1, r2, r3⟩ := run_rep hb.1 hb.2 hn1 hlt hk.out
          refine wp_val (v := .int .i64 k) (X' := X') (by unfold execOp; simp only [resolve, invoke, builtin, Sem.run_bind, Sem.run_pure, Result.andThen_ok, List.map_toArray, List.map_cons, List.map_nil, hE0, hE1, hrun]) ⟨_, by simp [Act.put, upd], ⟨r3 n hb.1, r2⟩, ⟨rfl, r1⟩, r3⟩
        | 8, _ =>
          simp at ho
          subst ho
          simp at hd
          obtain ⟨h0, h7⟩ := hd
          have h0' : s 0 = .int .i64 n := h0
          obtain ⟨h7', -⟩ : s 7 = .int .i64 k ∧ _ := h7
          refine wp_val (v := .int .i64 ((n : Int) + k)) (X' := X) (by simp [execOp, go_sem, h0', h7', e1]) ⟨_, by simp [Act.put, upd], hb, rfl, fun _ h => h⟩
      case tail =>
        intro o ho s X hb hS
        simp at ho
        subst ho
        have h8 : s 8 = .int .i64 ((n : Int) + k) := hS 8 (by omega)
        obtain ⟨-, h7⟩ : s 7 = .int .i64 k ∧ Rep X w.heap.size c (n + k) z := hS 7 (by omega)
        refine wp_val (v := .int .i64 ((n : Int) + k)) (X' := X) (by simp [execOp, go_sem, h8]) ⟨rfl, s, by simp [Act.put], h7, hb.2⟩
      case post =>
        rintro e a X ⟨rfl, s, rfl, hR, hBX⟩
        go_wp2
        go_roundw
        case rel => exact ⟨n + k, by omega, by omega, by go_num, hR, hBX⟩
        case measure => simp [intOf]; omega
    · obtain rfl : n = c := by omega
      have hrow : RowG w.heap.size w.heap.size (.slice (some ⟨w.heap.size, 0, none⟩) n n) n (List.replicate n z) wr := by
        refine ⟨by simp, fun _ => ⟨n, rfl, by simp, .inr ⟨w.heap.size, n, _, rfl, Nat.le_refl _, hg, Nat.le_refl _, by unfold maxLen; omega, by simp [hcl], ?_⟩⟩⟩
        apply List.ext_getElem?
        intro i
        rcases Nat.lt_or_ge i n with hi | hi
        · rw [List.getElem?_take, if_pos (by omega)]
          simp [hcz i hi, hi]
        · rw [List.getElem?_eq_none (by simp; omega), List.getElem?_eq_none (by simp; omega)]
      clear hg hcz hcl
      go_wp2
      go_ret
      exact ⟨_, rfl, hrow, hB⟩
end Go.Proofs.Ytoendfpfnfeccaa
