/- Contracts of fails, sort.Search, the three changes of a reservoir, and least. Conditions: a right reservoir with right demands (Okay). -/
import Derived.Test.YtbflocamicebhaaW3
namespace Go.Proofs.Ytbflocamicebhaa
open Go.RowKit Go.Shelf

set_option maxHeartbeats 400000 in
theorem fails1_any (t : Int × Int × Int) (w : World) :
    Calls Try.prog 47 #[stV t] w fun e w' => e = .returned (.bool (decide (0 < t.2.2))) ∧ Below w.heap.size w w' := by
  go_enter Try.func47, Try.ntmps47
  go_wp2
  go_ret
  exact ⟨rfl, (Below.refl _ _).alloc (Nat.le_refl _) _⟩

set_option maxHeartbeats 400000 in
theorem sags1_any (t : Int × Int × Int) (Br : Nat) (q : Int) (w : World) (hq : w.cell? ⟨Br, 3, none⟩ = some (.int .i64 q)) :
    Calls Try.prog 41 #[stV t, .pointer (some ⟨Br, 0, none⟩)] w fun e w' => e = .returned (.bool (decide (t.1 < q))) ∧ Below w.heap.size w w' := by
  have hq2 : (w.alloc (.cells #[.int .i64 t.1, .int .i64 t.2.1, .int .i64 t.2.2] 40)).cell? ⟨Br, 3, none⟩ = some (.int .i64 q) := (((Below.refl _ w).alloc (Nat.le_refl _) _).cell (p := ⟨Br, 3, none⟩) (lt_of_cell hq)).trans hq
  go_enter Try.func41, Try.ntmps41
  go_wp2
  go_ret
  exact ⟨rfl, (Below.refl _ _).alloc (Nat.le_refl _) _⟩

def missP (c s l : Int) (xs : List Int) (i : Nat) : Bool := decide (0 < (stAt c s l xs i).2.2)
def failF (c s l : Int) (xs : List Int) : Int × Bool := firstF (missP c s l xs) xs.length
def sagP (c s l q : Int) (xs : List Int) (i : Nat) : Bool := decide ((stAt c s l xs i).1 < q)
def sagF (c s l q : Int) (xs : List Int) : Int × Bool := firstF (sagP c s l q xs) xs.length

abbrev rV (c l s q : Int) : Value := .agg #[.int .i64 c, .int .i64 l, .int .i64 s, .int .i64 q]

set_option maxHeartbeats 400000 in
theorem fails_any (c l s q : Int) (v : Value) (xs : List Int) (h : Okay c l s q xs) (w : World) (hv : IntSl w v xs) :
    Calls Try.prog 39 #[rV c l s q, v] w fun e w' => e = .returned (.tuple #[.int .i64 (failF c s l xs).1, .bool (failF c s l xs).2]) ∧ Below w.heap.size w w' := by
  have hb := (Below.refl w.heap.size w).alloc (Nat.le_refl _) (.cells #[.int .i64 c, .int .i64 l, .int .i64 s, .int .i64 q] 28)
  have hv1 := hv.mono hb
  obtain ⟨a, cap, rfl⟩ := hv.len
  go_enter Try.func39, Try.ntmps39
  go_wp2_with (go_at_call 40; refine (first_any 47 #[] (fun t => decide (0 < t.2.2)) c l s q _ xs h _ hv1 (fun _ _ => rfl) (fun t w' _ => fails1_any t w')).mono ?_; rintro e w' ⟨rfl, hb1⟩)
  go_ret2
  exact ⟨rfl, hb.trans (hb1.mono (by simp))⟩

/-- what a search for the first n with P comes to -/
def IsSearch (P : Int → Bool) (N i : Int) : Prop := 0 ≤ i ∧ i ≤ N ∧ (0 < i → P (i - 1) = false) ∧ (i < N → P i = true)

def SearchPost (P : Int → Bool) (N : Int) (w : World) (e : Ending) (w' : World) : Prop := ∃ i, IsSearch P N i ∧ e = .returned (.int .i64 i) ∧ Below w.heap.size w w'

set_option maxHeartbeats 400000 in
theorem search_any (g : Nat) (lb : Array Value) (P : Int → Bool) (N : Int) (h0 : 0 ≤ N) (hN : N ≤ 1000000001) (w : World) (henter : ∀ args w, (callFunc g args).run Try.prog w = .ok (.enter g args) w)
    (hp : ∀ n w', 0 ≤ n → n < N → Below w.heap.size w w' → Calls Try.prog g (#[.int .i64 n] ++ lb) w' fun e w'' => e = .returned (.bool (P n)) ∧ Below w'.heap.size w' w'') :
    Calls Try.prog 44 #[.int .i64 N, .func (.func g) #[] lb] w (SearchPost P N w) := by
  go_enter Try.func44, Try.ntmps44
  go_wp2
  go_loopw [5, 6] (fun i j wr => ∃ a b : Int, 0 ≤ a ∧ a ≤ b ∧ b ≤ N ∧ i = .int .i64 a ∧ j = .int .i64 b ∧ (0 < a → P (a - 1) = false) ∧ (b < N → P b = true) ∧ Below w.heap.size w wr)
    (fun i j _ => (intOf j - intOf i).toNat)
  case atStart => exact ⟨0, N, by omega, h0, by omega, rfl, rfl, by omega, by omega, Below.refl _ _⟩
  case round =>
    obtain ⟨a, b, ha, hab, hb, rfl, rfl, hPa, hPb, hB⟩ := hrel
    by_cases hlt : a < b
    · have hshr : 0 ≤ (a + b) / 2 ∧ (a + b) / 2 < b ∧ a ≤ (a + b) / 2 := by omega
      go_wp2_with fail
      have hpm := hp ((a + b) / 2) wr (by omega) (by omega) hB
      generalize (a + b) / 2 = m at hshr hpm ⊢
      refine hpm.mono ?_
      rintro e w' ⟨rfl, hb2⟩
      have hB2 := hB.trans (hb2.mono hB.size)
      cases hPm : P m
      · have H := Lib.hid hPm
        clear hpm hPm
        go_wp2
        go_roundw
        case rel => exact ⟨m + 1, b, by omega, by omega, hb, rfl, rfl, fun _ => by rw [show m + 1 - 1 = m by omega]; exact H.out, hPb, hB2⟩
        case measure => simp [intOf]; omega
      · have H := Lib.hid hPm
        clear hpm hPm
        go_wp2
        go_roundw
        case rel => exact ⟨a, m, ha, by omega, by omega, rfl, rfl, hPa, fun _ => H.out, hB2⟩
        case measure => simp [intOf]; omega
    · obtain rfl : a = b := by omega
      go_wp2
      go_ret
      exact ⟨a, ⟨ha, hb, hPa, hPb⟩, rfl, hB⟩

/-- what a change of a boxed reservoir does -/
def ChgPost (c' l' s' q' : Int) (B : Nat) (w : World) (e : Ending) (w' : World) : Prop := e = .returned (.tuple #[]) ∧ BoxC w' B 28 #[.int .i64 c', .int .i64 l', .int .i64 s', .int .i64 q'] ∧ w.grownBy w' (some B)

set_option maxHeartbeats 400000 in
theorem chgC_any (c l s q n : Int) (B : Nat) (w : World) (hB : BoxC w B 28 #[.int .i64 c, .int .i64 l, .int .i64 s, .int .i64 q]) :
    Calls Try.prog 33 #[.pointer (some ⟨B, 0, none⟩), .int .i64 n] w (ChgPost n n s q B w) := by
  have c0 := hB.cell 0 rfl
  have c1 := hB.cell 1 rfl
  have f0 := hB.frozen 0
  have f1 := hB.frozen 1
  go_enter Try.func33, Try.ntmps33
  go_wp2
  go_end0
  exact ⟨rfl, (hB.set 0 _).set 1 _, grownBy_trans (grownBy_setCell _ _ _) (grownBy_setCell _ _ _)⟩

set_option maxHeartbeats 400000 in
theorem chgS_any (c l s q n : Int) (B : Nat) (w : World) (hB : BoxC w B 28 #[.int .i64 c, .int .i64 l, .int .i64 s, .int .i64 q]) :
    Calls Try.prog 34 #[.pointer (some ⟨B, 0, none⟩), .int .i64 n] w (ChgPost c l n q B w) := by
  have c0 := hB.cell 2 rfl
  have f0 := hB.frozen 2
  go_enter Try.func34, Try.ntmps34
  go_wp2
  go_end0
  exact ⟨rfl, hB.set 2 _, grownBy_setCell _ _ _⟩

set_option maxHeartbeats 400000 in
theorem chgL_any (c l s q n : Int) (B : Nat) (w : World) (hB : BoxC w B 28 #[.int .i64 c, .int .i64 l, .int .i64 s, .int .i64 q]) :
    Calls Try.prog 35 #[.pointer (some ⟨B, 0, none⟩), .int .i64 n] w (ChgPost c n s q B w) := by
  have c0 := hB.cell 1 rfl
  have f0 := hB.frozen 1
  go_enter Try.func35, Try.ntmps35
  go_wp2
  go_end0
  exact ⟨rfl, hB.set 1 _, grownBy_setCell _ _ _⟩

/-- a changed reservoir -/
structure Chg where
  c : Int → Int
  l : Int → Int
  s : Int → Int
  q : Int

set_option maxHeartbeats 400000 in
theorem least1_any (g : Nat) (f : Chg) (n c l s q : Int) (v : Value) (xs : List Int) (h : Okay (f.c n) (f.l n) (f.s n) f.q xs) (w : World) (hv : IntSl w v xs) (Br Bg Bd : Nat)
    (hr : BoxC w Br 28 #[.int .i64 c, .int .i64 l, .int .i64 s, .int .i64 q]) (hg : BoxC w Bg 64 #[.func (.func g) #[] #[]]) (hd : BoxC w Bd 29 #[v])
    (henter : ∀ args w, (callFunc g args).run Try.prog w = .ok (.enter g args) w)
    (hchg : ∀ B w', BoxC w' B 28 #[.int .i64 c, .int .i64 l, .int .i64 s, .int .i64 q] → Calls Try.prog g #[.pointer (some ⟨B, 0, none⟩), .int .i64 n] w' (ChgPost (f.c n) (f.l n) (f.s n) f.q B w')) :
    Calls Try.prog 45 #[.int .i64 n, .pointer (some ⟨Br, 0, none⟩), .pointer (some ⟨Bg, 0, none⟩), .pointer (some ⟨Bd, 0, none⟩)] w fun e w' => e = .returned (.bool (!(failF (f.c n) (f.s n) (f.l n) xs).2)) ∧ Below w.heap.size w w' := by
  have r0 := hr.cell 0 rfl
  have r1 := hr.cell 1 rfl
  have r2 := hr.cell 2 rfl
  have r3 := hr.cell 3 rfl
  have g0 := (hg.alloc (.cells #[.int .i64 c, .int .i64 l, .int .i64 s, .int .i64 q] 28)).cell 0 rfl
  go_enter Try.func45, Try.ntmps45
  go_wp2_with fail
  refine (hchg _ _ (BoxC.new w 28 _)).mono ?_
  rintro e w1 ⟨rfl, hb1, hg1⟩
  have hB1 : Below w.heap.size w w1 := ((Below.refl w.heap.size w).alloc (Nat.le_refl _) (.cells #[.int .i64 c, .int .i64 l, .int .i64 s, .int .i64 q] 28)).grown hg1 (by simp) (fun k e => by cases e; exact Nat.le_refl _)
  have d1 := (hd.grown hB1).cell 0 rfl
  have hv1 := hv.mono hB1
  have k0 := hb1.cell 0 rfl
  have k1 := hb1.cell 1 rfl
  have k2 := hb1.cell 2 rfl
  have k3 := hb1.cell 3 rfl
  clear r0 r1 r2 r3 g0 hr hg hd hb1 hv
  obtain ⟨a, cap, rfl⟩ := hv1.len
  go_wp2_with (go_at_call 39; refine (fails_any _ _ _ _ _ xs h _ hv1).mono ?_; rintro e w' ⟨rfl, hb2⟩)
  go_ret
  exact ⟨rfl, hB1.trans (hb2.mono hB1.size)⟩

def chgP (f : Chg) (xs : List Int) (n : Int) : Bool := !(failF (f.c n) (f.s n) (f.l n) xs).2

/-- the least number up to a limit that a search finds, if any -/
def IsLeast (P : Int → Bool) (limit r : Int) (b : Bool) : Prop := ∃ i, IsSearch P (limit + 1) i ∧ (r = if limit < i then 0 else i) ∧ b = decide (i ≤ limit)

def LeastPost (P : Int → Bool) (limit : Int) (w : World) (e : Ending) (w' : World) : Prop :=
  ∃ r b, IsLeast P limit r b ∧ e = .returned (.tuple #[.int .i64 r, .bool b]) ∧ Below w.heap.size w w'

set_option maxHeartbeats 400000 in
theorem least_any (g : Nat) (f : Chg) (limit c l s q : Int) (v : Value) (xs : List Int) (h0 : 0 ≤ limit) (h1 : limit ≤ 1000000000) (h : ∀ n, 0 ≤ n → n ≤ limit → Okay (f.c n) (f.l n) (f.s n) f.q xs) (w : World) (hv : IntSl w v xs)
    (henter : ∀ args w, (callFunc g args).run Try.prog w = .ok (.enter g args) w)
    (hchg : ∀ n B w', BoxC w' B 28 #[.int .i64 c, .int .i64 l, .int .i64 s, .int .i64 q] → Calls Try.prog g #[.pointer (some ⟨B, 0, none⟩), .int .i64 n] w' (ChgPost (f.c n) (f.l n) (f.s n) f.q B w')) :
    Calls Try.prog 32 #[rV c l s q, v, .int .i64 limit, .func (.func g) #[] #[]] w (LeastPost (chgP f xs) limit w) := by
  obtain ⟨a, cap, hva⟩ := hv.len
  have hmf : ∀ (fn : Fn) (first cap : Array Value) (w : World), (Instr.makeFunc fn first cap).run Try.prog w = .ok (.func fn first cap) w := fun _ _ _ _ => rfl
  have hb : Below w.heap.size w (((w.alloc (.cells #[.int .i64 c, .int .i64 l, .int .i64 s, .int .i64 q] 28)).alloc (.cells #[v] 29)).alloc (.cells #[.func (.func g) #[] #[]] 64)) := (((Below.refl _ w).alloc (Nat.le_refl _) _).alloc (by simp) _).alloc (by simp; omega) _
  have b1 := ((BoxC.new w 28 #[.int .i64 c, .int .i64 l, .int .i64 s, .int .i64 q]).alloc (.cells #[v] 29)).alloc (.cells #[.func (.func g) #[] #[]] 64)
  have b2 := (BoxC.new (w.alloc (.cells #[.int .i64 c, .int .i64 l, .int .i64 s, .int .i64 q] 28)) 29 #[v]).alloc (.cells #[.func (.func g) #[] #[]] 64)
  have b3 := BoxC.new ((w.alloc (.cells #[.int .i64 c, .int .i64 l, .int .i64 s, .int .i64 q] 28)).alloc (.cells #[v] 29)) 64 #[.func (.func g) #[] #[]]
  simp only [World.size_alloc] at b2 b3
  subst hva
  go_enter Try.func32, Try.ntmps32
  go_wp2_with fail
  have hs := search_any 45 #[.pointer (some ⟨w.heap.size, 0, none⟩), .pointer (some ⟨w.heap.size + 1 + 1, 0, none⟩), .pointer (some ⟨w.heap.size + 1, 0, none⟩)] (chgP f xs) (limit + 1) (by omega) (by omega) _ (fun _ _ => rfl) (fun n w' hn0 hn1 hbw => by
    have := least1_any g f n c l s q _ xs (h n hn0 (by omega)) w' ((hv.mono hb).mono hbw) _ _ _ (b1.grown hbw) (b3.grown hbw) (b2.grown hbw) henter (hchg n)
    exact this)
  refine hs.mono ?_
  rintro e w1 ⟨i, hi, rfl, hb1⟩
  have hi0 := hi.1
  have hi1 := hi.2.1
  have hB := hb.trans (hb1.mono hb.size)
  have hi := Lib.hid hi
  clear hb b1 b2 b3 hb1
  by_cases hl : limit < i
  · go_wp2
    go_ret2
    exact ⟨0, false, ⟨i, hi.out, by rw [if_pos hl], by rw [decide_eq_false (by omega)]⟩, rfl, hB⟩
  · go_wp2
    go_ret2
    exact ⟨i, true, ⟨i, hi.out, by rw [if_neg (by omega)], by rw [decide_eq_true (by omega)]⟩, rfl, hB⟩
end Go.Proofs.Ytbflocamicebhaa
