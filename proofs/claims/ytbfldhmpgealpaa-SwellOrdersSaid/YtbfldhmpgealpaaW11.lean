/- Contracts of both loudness functions. Conditions: a right table, a registration and stages that fit. -/
import Derived.Test.YtbfldhmpgealpaaW10
namespace Go.Proofs.Ytbfldhmpgealpaa
open Go.RowKit

/-- a right table -/
structure TabOk (T : Tab) : Prop where
  n : T.s.length ≤ 8
  eq : T.b.length = T.s.length
  len : ∀ k, k < T.s.length → (nths T.s k).length ≤ 60
  val : ∀ k i, k < T.s.length → 0 ≤ nth (nths T.s k) i ∧ nth (nths T.s k) i ≤ 1000000
  box : ∀ k, k < T.s.length → (nths T.b k).length = 0 ∨ BoxOk (nths T.b k)

theorem loudP_of {xs : List Int} (h : anyF loudP xs = false) (i : Nat) : 0 ≤ nth xs i ∧ nth xs i ≤ 1000000 := by
  rcases Nat.lt_or_ge i xs.length with h1 | h1
  · have h2 := anyF_false.1 h i h1
    unfold loudP at h2
    have h3 : betw (nth xs i) 0 1000000 = true := by simpa using h2
    exact betw_iff.1 h3
  · have : nth xs i = 0 := by simp [nth, h1]
    omega
theorem tabS_step {T : Tab} {k : Nat} (h : k < T.s.length) (h0 : tabS T k = 0) : (nths T.s k).length ≤ 60 ∧ (∀ i, 0 ≤ nth (nths T.s k) i ∧ nth (nths T.s k) i ≤ 1000000) ∧ ((nths T.b k).length = 0 ∨ BoxOk (nths T.b k)) ∧ tabS T (k + 1) = 0 := by
  by_cases h1 : 60 < (nths T.s k).length
  · rw [tabS_long h h1] at h0; cases h0
  · cases h2 : anyF loudP (nths T.s k)
    · by_cases h3 : (nths T.b k).length = 0
      · exact ⟨by omega, loudP_of h2, .inl h3, by rw [← tabS_none h h1 h2 h3]; exact h0⟩
      · by_cases h4 : chkF (nths T.b k) = 0
        · exact ⟨by omega, loudP_of h2, .inr (boxOk_of h4), by rw [← tabS_next h h1 h2 h3 h4]; exact h0⟩
        · rw [tabS_box h h1 h2 h3 h4] at h0; exact absurd h0 h4
    · rw [tabS_bad h h1 h2] at h0; cases h0
theorem tabS_all {T : Tab} (h0 : tabS T 0 = 0) : ∀ k, k ≤ T.s.length → tabS T k = 0
  | 0, _ => h0
  | k + 1, h => (tabS_step (by omega) (tabS_all h0 k (by omega))).2.2.2
theorem tabOk_of {T : Tab} (h : tabF T = 0) : TabOk T := by
  unfold tabF at h
  split at h
  · cases h
  · split at h
    · cases h
    · rename_i h1 h2
      have := tabS_all h
      exact ⟨by omega, by simpa using h2, fun k hk => (tabS_step hk (this k (by omega))).1, fun k i hk => (tabS_step hk (this k (by omega))).2.1 i, fun k hk => (tabS_step hk (this k (by omega))).2.2.1⟩

/-- the k-th bit -/
def bitB (z : Int) (k : Nat) : Bool := bits BinOp.and IntKind.u64 (z / 2 ^ k) 1 == 1
/-- the sum of the first k numbers whose bits are drawn -/
def drawS (xs : List Int) (z : Int) : Nat → Int
  | 0 => 0
  | k + 1 => drawS xs z k + (if bitB z k then nth xs k else 0)
theorem drawS_bd {xs : List Int} {z : Int} (h : ∀ i, 0 ≤ nth xs i ∧ nth xs i ≤ 1000000) : ∀ k : Nat, 0 ≤ drawS xs z k ∧ drawS xs z k ≤ k * 1000000
  | 0 => ⟨Int.le_refl _, by simp [drawS]⟩
  | k + 1 => by
    have h1 := drawS_bd (z := z) h k
    have h2 := h k
    unfold drawS
    split <;> omega
/-- the loudness of a division, with the stage of its box -/
def divF (T : Tab) (rs : List Int) (st : Nat → Int) (i : Nat) : Int :=
  if (nths T.b i).length = 0 then drawS (nths T.s i) (nth rs i) (nths T.s i).length else drawS (nths T.s i) (nth rs i) (nths T.s i).length * nth (nths T.b i) (st i).toNat / 1000
/-- the loudness of the first i divisions -/
def loudF (T : Tab) (rs : List Int) (st : Nat → Int) : Nat → Int
  | 0 => 0
  | i + 1 => loudF T rs st i + divF T rs st i
/-- the stages suit the boxes -/
def StOk (T : Tab) (st : Nat → Int) : Prop := ∀ k, k < T.s.length → (nths T.b k).length = 0 ∨ 0 ≤ st k ∧ st k < (nths T.b k).length
theorem divF_bd {T : Tab} {rs : List Int} {st : Nat → Int} (h : TabOk T) (hs : StOk T st) {i : Nat} (hi : i < T.s.length) : 0 ≤ divF T rs st i ∧ divF T rs st i ≤ 60000000 := by
  have h1 := drawS_bd (xs := nths T.s i) (z := nth rs i) (fun j => h.val i j hi) (nths T.s i).length
  have h2 := h.len i hi
  unfold divF
  split
  · omega
  · rename_i h3
    have h4 : 0 ≤ st i ∧ st i < (nths T.b i).length := (hs i hi).resolve_left h3
    have h5 := ((h.box i hi).resolve_left h3).r (st i).toNat (by omega)
    generalize drawS (nths T.s i) (nth rs i) (nths T.s i).length = n at h1
    generalize nth (nths T.b i) (st i).toNat = m at h5
    have a1 : n * m ≤ n * 1000 := Int.mul_le_mul_of_nonneg_left h5.2 h1.1
    have a2 : 0 ≤ n * m := Int.mul_nonneg h1.1 h5.1
    omega
theorem loudF_bd {T : Tab} {rs : List Int} {st : Nat → Int} (h : TabOk T) (hs : StOk T st) : ∀ i : Nat, i ≤ T.s.length → 0 ≤ loudF T rs st i ∧ loudF T rs st i ≤ i * 60000000
  | 0, _ => ⟨Int.le_refl _, by simp [loudF]⟩
  | i + 1, hi => by
    have h1 := loudF_bd (rs := rs) h hs i (by omega)
    have h2 := divF_bd (rs := rs) h hs (i := i) (by omega)
    unfold loudF
    omega

set_option maxHeartbeats 4000000 in
theorem loudness_any (v u x y : Value) (c o : Int) (T : Tab) (rs l : List Int) (w : World) (hv : SlSl w v T.s) (hu : SlSl w u T.b) (hT : TabOk T) (hx : NumSl .u64 w x rs) (hr : rs.length = T.s.length)
    (hy : NumSl .i64 w y l) (hl : l.length = T.s.length) (hs : StOk T (nth l)) :
    Calls Try.prog 43 #[tabV v u, regV x c o, y] w (IntBelow (loudF T rs (nth l) T.s.length) w) := by
  have hB := ((Below.refl w.heap.size w).alloc (Nat.le_refl _) (.cells #[v, u] 35)).alloc (by simp) (.cells #[x, .int .u64 c, .int .u64 o] 39)
  have bP := (BoxC.new w 35 #[v, u]).alloc (.cells #[x, .int .u64 c, .int .u64 o] 39)
  have bR := BoxC.new (w.alloc (.cells #[v, u] 35)) 39 #[x, .int .u64 c, .int .u64 o]
  simp only [World.size_alloc] at bR
  have hv1 := hv.mono hB
  have hu1 := hu.mono hB
  have hx1 := hx.mono hB
  have hy1 := hy.mono hB
  obtain ⟨a, cap, rfl⟩ := hv.len
  obtain ⟨a2, cap2, rfl⟩ := hu.len
  obtain ⟨a3, cap3, rfl⟩ := hx.len
  obtain ⟨a4, cap4, rfl⟩ := hy.len
  have hn8 := hT.n
  clear hv hu hx hy
  have hr1 : (rs.length : Int) ≤ T.s.length ∧ (T.s.length : Int) ≤ rs.length := by omega
  have hl1 : (l.length : Int) ≤ T.s.length ∧ (T.s.length : Int) ≤ l.length := by omega
  have hb1 : (T.b.length : Int) ≤ T.s.length ∧ (T.s.length : Int) ≤ T.b.length := by have := hT.eq; omega
  obtain ⟨hr1, hr2⟩ := hr1
  obtain ⟨hl1, hl2⟩ := hl1
  obtain ⟨hb1, hb2⟩ := hb1
  replace hr := Lib.hid hr; replace hl := Lib.hid hl
  go_enter Try.func43, Try.ntmps43
  go_wp2
  generalize hW : (w.alloc (.cells #[.slice a T.s.length cap, .slice a2 T.b.length cap2] 35)).alloc (.cells #[.slice a3 rs.length cap3, .int .u64 c, .int .u64 o] 39) = W at hB bP bR hv1 hu1 hx1 hy1 ⊢
  clear hW
  go_loopw [7, 16] (fun s i wr => ∃ k : Nat, k ≤ T.s.length ∧ i = .int .i64 k ∧ s = .int .i64 (loudF T rs (nth l) k) ∧ Below W.heap.size W wr) (fun _ i _ => T.s.length - (intOf i).toNat)
  case atStart => exact ⟨0, Nat.zero_le _, rfl, rfl, Below.refl _ _⟩
  case round =>
    obtain ⟨k, hk, rfl, rfl, hBr⟩ := hrel
    by_cases hlt : k < T.s.length
    · obtain ⟨b, off, cap', he, hc⟩ := (hv1.mono hBr).at hlt
      cases he
      obtain ⟨xv, cxv, hxv⟩ := hc k hlt
      obtain ⟨b2, off2, cap2', he2, hc2⟩ := (hx1.mono hBr).at (k := k) (by omega)
      cases he2
      have cr := hc2 k (by omega)
      obtain ⟨b4, off4, cap4', he4, hc4⟩ := (hu1.mono hBr).at (k := k) (by omega)
      cases he4
      obtain ⟨xb, cxb, hxb⟩ := hc4 k (by omega)
      obtain ⟨b5, off5, cap5', he5, hc5⟩ := (hy1.mono hBr).at (k := k) (by omega)
      cases he5
      have cl := hc5 k (by omega)
      have p0 := (bP.grown hBr).cell 0 rfl
      have p1 := (bP.grown hBr).cell 1 rfl
      have r0 := (bR.grown hBr).cell 0 rfl
      have hlen := hT.len k hlt
      have hval := fun i => hT.val k i hlt
      have hdb := fun j => drawS_bd (z := nth rs k) hval j
      have hst := hs k hlt
      have hbx := hT.box k hlt
      have hlb := loudF_bd (rs := rs) hT hs k (by omega)
      have hdv := divF_bd (rs := rs) hT hs hlt
      have hlf : loudF T rs (nth l) (k + 1) = loudF T rs (nth l) k + divF T rs (nth l) k := rfl
      have hdf : divF T rs (nth l) k = if (nths T.b k).length = 0 then drawS (nths T.s k) (nth rs k) (nths T.s k).length else drawS (nths T.s k) (nth rs k) (nths T.s k).length * nth (nths T.b k) (nth l k).toNat / 1000 := rfl
      obtain ⟨ax, capx, rfl⟩ := hxv.len
      obtain ⟨ab, capb, rfl⟩ := hxb.len
      replace hlf := Lib.hid hlf; replace hdf := Lib.hid hdf; replace hst := Lib.hid hst; replace hbx := Lib.hid hbx
      clear hc hc2 hc4 hc5 hs hT bP bR hv1 hu1 hx1 hy1
      generalize loudF T rs (nth l) k = LF at hlf hlb ⊢
      generalize divF T rs (nth l) k = DF at hlf hdf hdv
      generalize nth l k = sl at cl hst hdf
      generalize hz : nth rs k = z at cr hdb hdf
      clear hz
      generalize nths T.s k = xs at *
      generalize nths T.b k = ys at *
      have hkr : (k : Int) < (rs.length : Int) := by omega
      have hkl : (k : Int) < (l.length : Int) := by omega
      have hkb : (k : Int) < (T.b.length : Int) := by omega
      go_wp2
      go_loop [10, 23] (fun s i => ∃ j : Nat, j ≤ xs.length ∧ i = .int .i64 j ∧ s = .int .i64 (drawS xs z j)) (fun _ i => xs.length - (intOf i).toNat)
      case atStart => exact ⟨0, Nat.zero_le _, rfl, rfl⟩
      case round =>
        obtain ⟨j, hj, rfl, rfl⟩ := hrel
        have hdj := hdb j
        by_cases hlj : j < xs.length
        · obtain ⟨b3, off3, cap3', he3, hc3⟩ := hxv.at hlj
          cases he3
          have cj := hc3 j hlj
          have hvj := hval j
          have hds : drawS xs z (j + 1) = drawS xs z j + (if bitB z j then nth xs j else 0) := rfl
          have hbit : bitB z j = (bits BinOp.and IntKind.u64 (z / 2 ^ j) 1 == 1) := rfl
          clear hc3 hval hdb
          generalize drawS xs z j = D at hdj hds ⊢
          generalize nth xs j = e at cj hvj hds
          generalize bitB z j = bt at hbit hds
          cases bt
          · have hbt := hbit.symm
            rw [if_neg (by simp)] at hds
            replace hds := Lib.hid hds
            clear hbit
            go_wp2
            go_round
            case rel => exact ⟨j + 1, by omega, by go_num, by rw [hds.out]; go_num⟩
            case measure => simp [intOf]; omega
          · have hbt := hbit.symm
            rw [if_pos rfl] at hds
            replace hds := Lib.hid hds
            clear hbit
            go_wp2
            go_round
            case rel => exact ⟨j + 1, by omega, by go_num, by rw [hds.out]⟩
            case measure => simp [intOf]; omega
        · obtain rfl : j = xs.length := by omega
          generalize drawS xs z xs.length = D at hdj hdf ⊢
          clear hval hdb
          by_cases q : ys.length = 0
          · have e := hdf.out
            rw [if_pos q] at e
            subst e
            have q' : ¬ 0 < (ys.length : Int) := by omega
            have q2 : (ys.length : Int) ≤ 0 := by omega
            replace q := Lib.hid q
            go_wp2
            go_roundw
            case rel => exact ⟨k + 1, by omega, by go_num, by rw [hlf.out], hBr⟩
            case measure => simp [intOf]; omega
          · have e := hdf.out
            rw [if_neg q] at e
            have hst' : 0 ≤ sl ∧ sl < (ys.length : Int) := hst.out.resolve_left q
            have hbx' := hbx.out.resolve_left q
            have q2 : 0 < (ys.length : Int) := by omega
            obtain ⟨i, rfl⟩ := Int.eq_ofNat_of_zero_le hst'.1
            rw [Int.toNat_natCast] at e
            obtain ⟨b6, off6, cap6', he6, hc6⟩ := hxb.at (k := i) (by omega)
            cases he6
            have ci := hc6 i (by omega)
            have hm := hbx'.r i (by omega)
            have hii : (i : Int) < (ys.length : Int) := hst'.2
            clear hc6 hst' hbx' q
            generalize nth ys i = m at ci hm e
            have a1 : D * m ≤ D * 1000 := Int.mul_le_mul_of_nonneg_left hm.2 hdj.1
            have a2 : 0 ≤ D * m := Int.mul_nonneg hdj.1 hm.1
            have w1 : IntKind.i64.wrap (D * m) = D * m := IntWalk.i64_in _ (by omega)
            have w2 : IntKind.i64.wrap ((D * m).tdiv 1000) = DF := by
              rw [Int.tdiv_eq_ediv_of_nonneg a2, ← e]
              exact IntWalk.i64_in _ (by omega)
            replace e := Lib.hid e
            go_wp2_with fail
            go_quiet (fail)
            clear w1 w2 a1 a2
            go_wp2
            go_roundw
            case rel => exact ⟨k + 1, by omega, by go_num, by rw [hlf.out], below_drewN hBr _⟩
            case measure => simp [intOf]; omega
    · obtain rfl : k = T.s.length := by omega
      go_wp2
      go_ret
      exact ⟨rfl, hB.trans (hBr.mono hB.size)⟩
end Go.Proofs.Ytbfldhmpgealpaa
