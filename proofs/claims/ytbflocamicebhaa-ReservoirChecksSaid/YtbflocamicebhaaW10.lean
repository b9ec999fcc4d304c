/- The contract of Totals. Conditions: the list of demands has at most 2^47 elements. -/
import Derived.Test.YtbflocamicebhaaW6
import Derived.Test.YtbflocamicebhaaRound
namespace Go.Proofs.Ytbflocamicebhaa
open Go.RowKit Go.Shelf
attribute [local go_sem] Oper.semAt_some

/-- the sum of the first numbers -/
def totF (f : Nat → Int) : Nat → Int
  | 0 => 0
  | k + 1 => totF f k + f k
def preSum {n : Nat} (f : Nat → Int) (pre : List (Fin n)) : Int := pre.foldl (fun a x => a + f x.val) 0
theorem preSum_snoc {n : Nat} (f : Nat → Int) (pre : List (Fin n)) (x : Fin n) : preSum f (pre ++ [x]) = preSum f pre + f x.val := by simp [preSum]
theorem preSum_take {n : Nat} (f : Nat → Int) : ∀ k, k ≤ n → preSum f ((List.finRange n).take k) = totF f k
  | 0, _ => rfl
  | k + 1, h => by rw [take_fin (by omega), preSum_snoc, preSum_take f k (by omega)]; rfl
theorem preSum_all {n : Nat} (f : Nat → Int) : preSum f (List.finRange n) = totF f n := by
  have := preSum_take (n := n) f n (Nat.le_refl _)
  rwa [List.take_of_length_le (by simp)] at this
theorem totF_range {f : Nat → Int} {M : Int} (h : ∀ k, 0 ≤ f k ∧ f k ≤ M) : ∀ k : Nat, 0 ≤ totF f k ∧ totF f k ≤ k * M
  | 0 => ⟨Int.le_refl _, by simp [totF]⟩
  | k + 1 => by
    have h1 := totF_range h k
    have h2 := h k
    have e : ((k + 1 : Nat) : Int) * M = k * M + M := by rw [Int.natCast_add, Int.add_mul]; simp
    rw [e]
    exact ⟨by unfold totF; omega, by unfold totF; omega⟩
theorem fold_range {n : Nat} {f : Nat → Int} (h : ∀ k, 0 ≤ f k ∧ f k ≤ 2000000000) : ∀ (pre : List (Fin n)) (a : Int), a ≤ pre.foldl (fun a x => a + f x.val) a ∧ pre.foldl (fun a x => a + f x.val) a ≤ a + pre.length * 2000000000
  | [], a => by simp
  | x :: t, a => by
    have h1 := fold_range h t (a + f x.val)
    have h2 := h x.val
    have e : ((t.length + 1 : Nat) : Int) = t.length + 1 := by omega
    simp only [List.foldl_cons, List.length_cons, e]
    omega
theorem preSum_range {n : Nat} {f : Nat → Int} (h : ∀ k, 0 ≤ f k ∧ f k ≤ 2000000000) {pre : List (Fin n)} (hp : pre.length < n) (hn : n ≤ 2000) : 0 ≤ preSum f pre ∧ preSum f pre ≤ 4000000000000 := by
  have h1 := fold_range h pre 0
  unfold preSum
  omega

def useF (c s l : Int) (xs : List Int) (k : Nat) : Int := xs[k]?.getD 0 - (stAt c s l xs k).2.2
def wasF (c s l : Int) (xs : List Int) (k : Nat) : Int := (stAt c s l xs k).2.1
def misF (c s l : Int) (xs : List Int) (k : Nat) : Int := (stAt c s l xs k).2.2

def TotPost (d : Int) (c s l : Int) (xs : List Int) (w : World) (e : Ending) (w' : World) : Prop :=
  Below w.heap.size w w' ∧ (d = 0 → e = .returned (.tuple #[.int .i64 (totF (useF c s l xs) xs.length), .int .i64 (totF (wasF c s l xs) xs.length), .int .i64 (totF (misF c s l xs) xs.length), .int .i64 0])) ∧
    (d ≠ 0 → e = .returned (.tuple #[.int .i64 0, .int .i64 0, .int .i64 0, .int .i64 d]))

set_option maxRecDepth 100000 in
set_option maxHeartbeats 4000000 in
theorem Totals_any (c l s q : Int) (v : Value) (xs : List Int) (w : World) (hv : IntSl w v xs) (hm : xs.length ≤ 140737488355328) :
    Calls Try.prog 22 #[rV c l s q, v] w (TotPost (demF c l s q xs) c s l xs w) := by
  obtain ⟨a, cap, hva⟩ := hv.len
  obtain ⟨d, hd⟩ : ∃ d, demF c l s q xs = d := ⟨_, rfl⟩
  have hd2 := Lib.hid hd
  clear hd
  have hvlt : ∀ b, 0 < xs.length → v.ownBlock = some b → b < w.heap.size := by
    intro b hn hb
    obtain ⟨b', off, cap', he, hc⟩ := hv.at hn
    rw [he] at hb
    cases hb
    exact lt_of_cell hc
  have hv0 := hv
  subst hva
  rw [hd2.out]
  have hb5 : Below w.heap.size w (((((w.alloc (.cells #[.int .i64 c, .int .i64 l, .int .i64 s, .int .i64 q] 28)).alloc (.cells #[.slice a xs.length cap] 29)).alloc (.cells #[.int .i64 0] 3)).alloc (.cells #[.int .i64 0] 3)).alloc (.cells #[.int .i64 0] 3)) :=
    (((((Below.refl _ w).alloc (Nat.le_refl _) _).alloc (by simp) _).alloc (by simp; omega) _).alloc (by simp; omega) _).alloc (by simp; omega) _
  have p0 := ((((BoxC.new w 28 #[.int .i64 c, .int .i64 l, .int .i64 s, .int .i64 q]).alloc (.cells #[.slice a xs.length cap] 29)).alloc (.cells #[.int .i64 0] 3)).alloc (.cells #[.int .i64 0] 3)).alloc (.cells #[.int .i64 0] 3)
  have p1 := (((BoxC.new (w.alloc (.cells #[.int .i64 c, .int .i64 l, .int .i64 s, .int .i64 q] 28)) 29 #[.slice a xs.length cap]).alloc (.cells #[.int .i64 0] 3)).alloc (.cells #[.int .i64 0] 3)).alloc (.cells #[.int .i64 0] 3)
  have p2 := ((BoxC.new ((w.alloc (.cells #[.int .i64 c, .int .i64 l, .int .i64 s, .int .i64 q] 28)).alloc (.cells #[.slice a xs.length cap] 29)) 3 #[.int .i64 0]).alloc (.cells #[.int .i64 0] 3)).alloc (.cells #[.int .i64 0] 3)
  have p3 := (BoxC.new (((w.alloc (.cells #[.int .i64 c, .int .i64 l, .int .i64 s, .int .i64 q] 28)).alloc (.cells #[.slice a xs.length cap] 29)).alloc (.cells #[.int .i64 0] 3)) 3 #[.int .i64 0]).alloc (.cells #[.int .i64 0] 3)
  have p4 := BoxC.new ((((w.alloc (.cells #[.int .i64 c, .int .i64 l, .int .i64 s, .int .i64 q] 28)).alloc (.cells #[.slice a xs.length cap] 29)).alloc (.cells #[.int .i64 0] 3)).alloc (.cells #[.int .i64 0] 3)) 3 #[.int .i64 0]
  have hdem := demanded_any c l s q _ xs _ (hv.mono hb5) hm
  refine (callsIn_wide (n := 9)).1 ?_
  refine callsIn_of_wp_marks Try.func22 rfl trivial ?_ rfl
  simp only [Try.ntmps22, List.size_toArray, List.length_cons, List.length_nil, Nat.reduceAdd, Nat.reduceSub, Array.replicate_succ, Array.replicate_zero, List.push_toArray, List.append_toArray, List.nil_append, List.cons_append]
  gi_wp2_with fail
  refine ⟨trivial, ?_⟩
  refine (callsIn_wide.2 hdem).mono ?_
  rintro e w1 ⟨rfl, hb1⟩
  rw [hd2.out]
  have hB := hb5.trans (hb1.mono hb5.size)
  have hv2 := (hv.mono hb5).mono hb1
  simp only [World.size_alloc] at p0 p1 p2 p3 p4
  replace p0 := p0.grown hb1
  replace p1 := p1.grown hb1
  replace p2 := p2.grown hb1
  replace p3 := p3.grown hb1
  replace p4 := p4.grown hb1
  have r0 := p0.cell 0 rfl
  have r1 := p0.cell 1 rfl
  have r2 := p0.cell 2 rfl
  have r3 := p0.cell 3 rfl
  have r4 := p1.cell 0 rfl
  have r5 := p2.cell 0 rfl
  have r6 := p3.cell 0 rfl
  have r7 := p4.cell 0 rfl
  clear hdem hb5 hb1
  by_cases h0 : d = 0
  · subst h0
    have ho := okay_of hd2.out
    gi_wp2_with (refine ⟨trivial, ?_⟩; gi_at_call 38; refine (callsIn_wide.2 (states_any _ _ _ _ _ a xs.length cap rfl _)).mono ?_; rintro e w' ⟨rfl, rfl⟩)
    have hsz : ((w1.alloc (.cells #[.int .i64 c, .int .i64 l, .int .i64 s, .int .i64 q] 28)).alloc (.cells #[.slice a xs.length cap] 29)).heap.size = w1.heap.size + 2 := by simp
    have b8 := (BoxC.new w1 28 #[.int .i64 c, .int .i64 l, .int .i64 s, .int .i64 q]).alloc (.cells #[.slice a xs.length cap] 29)
    have b9 := BoxC.new (w1.alloc (.cells #[.int .i64 c, .int .i64 l, .int .i64 s, .int .i64 q] 28)) 29 #[.slice a xs.length cap]
    have hbW : Below w1.heap.size w1 ((w1.alloc (.cells #[.int .i64 c, .int .i64 l, .int .i64 s, .int .i64 q] 28)).alloc (.cells #[.slice a xs.length cap] 29)) := ((Below.refl _ w1).alloc (Nat.le_refl _) _).alloc (by simp) _
    simp only [World.size_alloc] at b8 b9
    have hv3 := hv2.mono hbW
    have hB0 := hB.trans (hbW.mono hB.size)
    replace p1 := p1.grown hbW
    replace p2 := p2.grown hbW
    replace p3 := p3.grown hbW
    have hlt4 := p4.lt
    replace p4 := p4.grown hbW
    generalize ((w1.alloc (.cells #[.int .i64 c, .int .i64 l, .int .i64 s, .int .i64 q] 28)).alloc (.cells #[.slice a xs.length cap] 29)) = W0 at hsz b8 b9 hbW hv3 hB0 p1 p2 p3 p4 ⊢
    clear r0 r1 r2 r3 r4 r5 r6 r7 p0 hbW
    have hs1 := hB.size
    refine wpIn_rangeFunc_ownH rfl (by omega) (gf := 46) (lb := #[.pointer (some ⟨w1.heap.size, 0, none⟩), .pointer (some ⟨w1.heap.size + 1, 0, none⟩)]) rfl trivial (enters_of Try.func46 (by kernel_rfl) rfl)
      (states_stops 8 (by omega) (fun k => k = w.heap.size + 1 + 1 ∨ k = w.heap.size + 1 + 1 + 1 ∨ k = w.heap.size + 1 + 1 + 1 + 1) none w.heap.size c l s q _ xs ho W0 _ _ (b8.cell 0 rfl) (b8.cell 1 rfl) (b8.cell 2 rfl) (b8.cell 3 rfl) (b9.cell 0 rfl) hv3 hvlt (by simp) ?hfp)
      Keeps.trans (Keeps.putObj (by simp)) (Below.refl _ _) (fun _ => rfl)
      (fun pre W => (BoxC W (w.heap.size + 1) 29 #[.slice a xs.length cap] ∧ BoxC W (w.heap.size + 1 + 1) 3 #[.int .i64 (preSum (useF c s l xs) pre)] ∧ BoxC W (w.heap.size + 1 + 1 + 1) 3 #[.int .i64 (preSum (wasF c s l xs) pre)] ∧ BoxC W (w.heap.size + 1 + 1 + 1 + 1) 3 #[.int .i64 (preSum (misF c s l xs) pre)]) ∧ Below w.heap.size w W)
      (fun _ _ _ => False)
      (OwnFrom.and (OwnFrom.and (Own.from (boxC_own _ _ _) _) (OwnFrom.and (Own.from (boxC_own _ _ _) _) (OwnFrom.and (Own.from (boxC_own _ _ _) _) (Own.from (boxC_own _ _ _) _)))) (ownFrom_below (Nat.le_refl _) (by omega)))
      (fun _ _ _ _ _ hs _ _ => hs)
      ⟨⟨p1, p2, p3, p4⟩, hB0⟩
      (fun x a' W => ∃ Bx, w.heap.size + 1 + 1 + 1 + 1 < Bx ∧ BoxC W Bx 40 #[.int .i64 (stAt c s l xs x.val).1, .int .i64 (stAt c s l xs x.val).2.1, .int .i64 (stAt c s l xs x.val).2.2] ∧ a' = { tmps := #[.agg #[.int .i64 c, .int .i64 l, .int .i64 s, .int .i64 q], .slice a xs.length cap, .pointer (some ⟨w.heap.size, 0, none⟩), .pointer (some ⟨w.heap.size + 1, 0, none⟩), .pointer (some ⟨w.heap.size + 1 + 1, 0, none⟩), .pointer (some ⟨w.heap.size + 1 + 1 + 1, 0, none⟩), .pointer (some ⟨w.heap.size + 1 + 1 + 1 + 1, 0, none⟩), .int .i64 0, .int .i64 0, .int .i64 (x.val : Int), .pointer (some ⟨Bx, 0, none⟩),
        .agg #[.int .i64 c, .int .i64 l, .int .i64 s, .int .i64 q], .slice a xs.length cap, .int .i64 0, .int .i64 0, .bool false, undef, .agg #[.int .i64 c, .int .i64 l, .int .i64 s, .int .i64 q], .slice a xs.length cap, .func (.func 46) #[] #[.pointer (some ⟨w1.heap.size, 0, none⟩), .pointer (some ⟨w1.heap.size + 1, 0, none⟩)], .int .i64 (x.val : Int), stV (stAt c s l xs x.val), undef, undef, undef, undef, undef, undef, undef, undef, undef, undef, undef, undef, undef, undef, undef, undef, undef, undef, undef, undef], defers := [] })
      ?hAx ?assign ?body ?done ?stop
    case hfp =>
      rintro k (hk | ⟨b, v, hb, _⟩)
      · omega
      · cases hb
    case hAx =>
      rintro x a' _ X Y row ⟨Bx, h1, h2, h3⟩ hg hr
      exact ⟨Bx, h1, boxC_own Bx 40 (fun (_ : Unit) => #[Value.int .i64 (stAt c s l xs x.val).1, .int .i64 (stAt c s l xs x.val).2.1, .int .i64 (stAt c s l xs x.val).2.2]) () X Y row h2 hg (fun r e => (hr r e).2), h3⟩
    case assign =>
      rintro j pre x W K ⟨⟨hI1, hI2, hI3, hI4⟩, hI5⟩ hK
      have hb := (Below.refl W.heap.size W).alloc (Nat.le_refl _) (.cells #[.int .i64 (stAt c s l xs x.val).1, .int .i64 (stAt c s l xs x.val).2.1, .int .i64 (stAt c s l xs x.val).2.2] 40)
      simp only [encS, stV]
      gi_wp2
      exact hK _ _ (keepsFrom_grown hb) (Keeps.grown hb (by simp)) ⟨⟨hI1.grown hb, hI2.grown hb, hI3.grown hb, hI4.grown hb⟩, hI5.trans (hb.mono hI5.size)⟩ ⟨W.heap.size, hI4.lt, BoxC.new W 40 _, rfl⟩
    case body =>
      rintro j pre x a' W hl ⟨r, hr⟩ ⟨⟨hI1, hI2, hI3, hI4⟩, hI5⟩ ⟨Bx, hBx, bX, rfl⟩ hlt
      have hn1 := ho.n1
      have hst := ho.st x.val
      have hd1 := ho.d1 x.val
      have hu : ∀ k, 0 ≤ useF c s l xs k ∧ useF c s l xs k ≤ 2000000000 := fun k => by have h1 := ho.st k; have h2 := ho.d1 k; unfold useF; omega
      have hw : ∀ k, 0 ≤ wasF c s l xs k ∧ wasF c s l xs k ≤ 2000000000 := fun k => by have h1 := ho.st k; unfold wasF; omega
      have hi : ∀ k, 0 ≤ misF c s l xs k ∧ misF c s l xs k ≤ 2000000000 := fun k => by have h1 := ho.st k; have h2 := ho.d1 k; unfold misF; omega
      have su := preSum_range hu hlt hn1
      have sw := preSum_range hw hlt hn1
      have si := preSum_range hi hlt hn1
      have hx := x.isLt
      obtain ⟨b, off, cap', he, hck⟩ := (hv0.mono hI5).at hx
      cases he
      have c1 := hI1.cell 0 rfl
      have c2 := hI2.cell 0 rfl
      have c3 := hI3.cell 0 rfl
      have c4 := hI4.cell 0 rfl
      have c5 := bX.cell 0 rfl
      have c6 := bX.cell 1 rfl
      have c7 := bX.cell 2 rfl
      have f2 := hI2.frozen 0
      have f3 := hI3.frozen 0
      have f4 := hI4.frozen 0
      have hxi : ((x.val : Nat) : Int) < (xs.length : Int) := by omega
      gi_wp2_with fail
      refine region_tail_round 9 (by kernel_rfl) (by kernel_rfl) (by kernel_rfl) ?_
      simp only [List.take_succ_cons, List.take_zero, List.drop_succ_cons, List.drop_zero]
      repeat still_step
      refine wpStill_nil ?_
      have k1 := hI1.drew
      have k2 := hI2.drew
      have k3 := hI3.drew
      have k4 := hI4.drew
      have kX := bX.drew
      have hbd : Below W.heap.size W W.drew := (Below.refl _ _).drew
      generalize W.drew = W6 at k1 k2 k3 k4 kX hbd ⊢
      clear c1 c2 c3 c4 c5 c6 c7 f2 f3 f4 hck
      have c2 := k2.cell 0 rfl
      have c3 := k3.cell 0 rfl
      have c4 := k4.cell 0 rfl
      have c5 := kX.cell 0 rfl
      have c6 := kX.cell 1 rfl
      have c7 := kX.cell 2 rfl
      have f2 := k2.frozen 0
      have f3 := k3.frozen 0
      have f4 := k4.frozen 0
      go_wp2
      refine ⟨by simp, ?_⟩
      gi_wp2
      refine ⟨(keepsFrom_grown hbd).trans (((KeepsOthers.setCell _ _ _).from _).trans (((KeepsOthers.setCell _ _ _).from _).trans ((KeepsOthers.setCell _ _ _).from _))), ?_, ?_⟩
      · exact (Keeps.grown hbd (by simp)).trans ((Keeps.setCell _ _ (.inl rfl) (by simp)).trans ((Keeps.setCell _ _ (.inr (.inl rfl)) (by simp)).trans (Keeps.setCell _ _ (.inr (.inr rfl)) (by simp))))
      · have hB6 := hI5.trans (hbd.mono hI5.size)
        refine ⟨⟨?_, ?_, ?_, ?_⟩, ((hB6.setCell (p := ⟨w.heap.size + 1 + 1, 0, none⟩) (by simp; omega) _).setCell (p := ⟨w.heap.size + 1 + 1 + 1, 0, none⟩) (by simp; omega) _).setCell (p := ⟨w.heap.size + 1 + 1 + 1 + 1, 0, none⟩) (by simp; omega) _⟩
        · exact ((k1.other (p := ⟨w.heap.size + 1 + 1, 0, none⟩) (by first | (simp; done) | (simp; omega)) _).other (p := ⟨w.heap.size + 1 + 1 + 1, 0, none⟩) (by first | (simp; done) | (simp; omega)) _).other (p := ⟨w.heap.size + 1 + 1 + 1 + 1, 0, none⟩) (by first | (simp; done) | (simp; omega)) _
        · rw [preSum_snoc]
          have hxg : xs[x.val]?.getD 0 = xs[x.val] := by simp
          have hxr : -9223372036854775808 ≤ xs[x.val] - (stAt c s l xs x.val).2.2 ∧ xs[x.val] - (stAt c s l xs x.val).2.2 ≤ 9223372036854775807 := by omega
          rw [show useF c s l xs x.val = xs[x.val] - (stAt c s l xs x.val).2.2 by unfold useF; rw [hxg]]
          have hwr : ∀ n : Int, -9223372036854775808 ≤ n ∧ n ≤ 9223372036854775807 → wrap64 n = n := fun n h => by unfold wrap64; omega
          rw [hwr _ hxr, hwr _ (by omega)]
          exact ((k2.set 0 _).other (p := ⟨w.heap.size + 1 + 1 + 1, 0, none⟩) (by first | (simp; done) | (simp; omega)) _).other (p := ⟨w.heap.size + 1 + 1 + 1 + 1, 0, none⟩) (by first | (simp; done) | (simp; omega)) _
        · rw [preSum_snoc]
          exact ((k3.other (p := ⟨w.heap.size + 1 + 1, 0, none⟩) (by first | (simp; done) | (simp; omega)) _).set 0 _).other (p := ⟨w.heap.size + 1 + 1 + 1 + 1, 0, none⟩) (by first | (simp; done) | (simp; omega)) _
        · rw [preSum_snoc]
          exact ((k4.other (p := ⟨w.heap.size + 1 + 1, 0, none⟩) (by first | (simp; done) | (simp; omega)) _).other (p := ⟨w.heap.size + 1 + 1 + 1, 0, none⟩) (by first | (simp; done) | (simp; omega)) _).set 0 _
    case done =>
      rintro D ys W hD rfl ⟨⟨hI1, hI2, hI3, hI4⟩, hI5⟩ hK
      have c2 := hI2.cell 0 rfl
      have c3 := hI3.cell 0 rfl
      have c4 := hI4.cell 0 rfl
      have f2 := hI2.frozen 0
      have f3 := hI3.frozen 0
      have f4 := hI4.frozen 0
      gi_wp2
      gi_region
      have e2 := ((((hI2.set 0 (.int .i64 (preSum (useF c s l xs) (List.finRange xs.length)))).other (p := ⟨w.heap.size + 1 + 1 + 1, 0, none⟩) (by first | (simp; done) | (simp; omega)) (.int .i64 (preSum (wasF c s l xs) (List.finRange xs.length)))).other (p := ⟨w.heap.size + 1 + 1 + 1 + 1, 0, none⟩) (by first | (simp; done) | (simp; omega)) (.int .i64 (preSum (misF c s l xs) (List.finRange xs.length))))).drew
      have e3 := ((((hI3.other (p := ⟨w.heap.size + 1 + 1, 0, none⟩) (by first | (simp; done) | (simp; omega)) (.int .i64 (preSum (useF c s l xs) (List.finRange xs.length)))).set 0 (.int .i64 (preSum (wasF c s l xs) (List.finRange xs.length)))).other (p := ⟨w.heap.size + 1 + 1 + 1 + 1, 0, none⟩) (by first | (simp; done) | (simp; omega)) (.int .i64 (preSum (misF c s l xs) (List.finRange xs.length))))).drew
      have e4 := ((((hI4.other (p := ⟨w.heap.size + 1 + 1, 0, none⟩) (by first | (simp; done) | (simp; omega)) (.int .i64 (preSum (useF c s l xs) (List.finRange xs.length)))).other (p := ⟨w.heap.size + 1 + 1 + 1, 0, none⟩) (by first | (simp; done) | (simp; omega)) (.int .i64 (preSum (wasF c s l xs) (List.finRange xs.length)))).set 0 (.int .i64 (preSum (misF c s l xs) (List.finRange xs.length))))).drew
      have hB2 := (((hI5.setCell (p := ⟨w.heap.size + 1 + 1, 0, none⟩) (by simp; omega) (.int .i64 (preSum (useF c s l xs) (List.finRange xs.length)))).setCell (p := ⟨w.heap.size + 1 + 1 + 1, 0, none⟩) (by simp; omega) (.int .i64 (preSum (wasF c s l xs) (List.finRange xs.length)))).setCell (p := ⟨w.heap.size + 1 + 1 + 1 + 1, 0, none⟩) (by simp; omega) (.int .i64 (preSum (misF c s l xs) (List.finRange xs.length)))).drew
      have hK2 := (((KeepsOthers.setCell W ⟨w.heap.size + 1 + 1, 0, none⟩ (.int .i64 (preSum (useF c s l xs) (List.finRange xs.length)))).trans (KeepsOthers.setCell _ ⟨w.heap.size + 1 + 1 + 1, 0, none⟩ (.int .i64 (preSum (wasF c s l xs) (List.finRange xs.length))))).trans ((KeepsOthers.setCell _ ⟨w.heap.size + 1 + 1 + 1 + 1, 0, none⟩ (.int .i64 (preSum (misF c s l xs) (List.finRange xs.length)))).trans (KeepsOthers.drew _))).same D _ hK rfl
      simp only [preSum_all] at e2 e3 e4 hB2 hK2 ⊢
      generalize ((((W.setCell _ _).setCell _ _).setCell _ _).drew) = W8 at e2 e3 e4 hB2 hK2 ⊢
      have g2 := (e2.putObj (.deferred none) hK2 rfl).cell 0 rfl
      have g3 := (e3.putObj (.deferred none) hK2 rfl).cell 0 rfl
      have g4 := (e4.putObj (.deferred none) hK2 rfl).cell 0 rfl
      gi_wp2
      exact endM hK2 (v := .tuple #[.int .i64 (totF (useF c s l xs) xs.length), .int .i64 (totF (wasF c s l xs) xs.length), .int .i64 (totF (misF c s l xs) xs.length), .int .i64 0]) (by simp [results, Try.f22, go_sem, g2, g3, g4]) ⟨below_putObj hB2 _ (by omega) hK2, fun _ => rfl, fun h => absurd rfl h⟩
    case stop =>
      rintro D e pre W hD hpre h hK
      exact h.elim
  · have h0' : (d == 0) = false := by simpa using h0
    have f2 := p2.frozen 0
    have f3 := p3.frozen 0
    have f4 := p4.frozen 0
    gi_wp2
    have e2 := (((p2.set 0 (.int .i64 0)).other (p := ⟨w.heap.size + 1 + 1 + 1, 0, none⟩) (by first | (simp; done) | (simp; omega)) (.int .i64 0)).other (p := ⟨w.heap.size + 1 + 1 + 1 + 1, 0, none⟩) (by first | (simp; done) | (simp; omega)) (.int .i64 0)).cell 0 rfl
    have e3 := (((p3.other (p := ⟨w.heap.size + 1 + 1, 0, none⟩) (by first | (simp; done) | (simp; omega)) (.int .i64 0)).set 0 (.int .i64 0)).other (p := ⟨w.heap.size + 1 + 1 + 1 + 1, 0, none⟩) (by first | (simp; done) | (simp; omega)) (.int .i64 0)).cell 0 rfl
    have e4 := (((p4.other (p := ⟨w.heap.size + 1 + 1, 0, none⟩) (by first | (simp; done) | (simp; omega)) (.int .i64 0)).other (p := ⟨w.heap.size + 1 + 1 + 1, 0, none⟩) (by first | (simp; done) | (simp; omega)) (.int .i64 0)).set 0 (.int .i64 0)).cell 0 rfl
    exact endM0 (v := .tuple #[.int .i64 0, .int .i64 0, .int .i64 0, .int .i64 d]) (by simp [results, Try.f22, go_sem, e2, e3, e4]) ⟨((hB.setCell (p := ⟨w.heap.size + 1 + 1, 0, none⟩) (by simp; omega) _).setCell (p := ⟨w.heap.size + 1 + 1 + 1, 0, none⟩) (by simp; omega) _).setCell (p := ⟨w.heap.size + 1 + 1 + 1 + 1, 0, none⟩) (by simp; omega) _, fun h => absurd h h0, fun _ => rfl⟩
end Go.Proofs.Ytbflocamicebhaa
