/- The contract of Run. Conditions: the list of demands has at most 2^47 elements. -/
import Derived.Test.YtbflocamicebhaaW5
namespace Go.Proofs.Ytbflocamicebhaa
open Go.RowKit Go.Shelf
attribute [local go_sem] Oper.semAt_some

theorem info40 : (Try.prog.info? 40).map (fun i => (i.zero, i.size, i.bytes)) = some (some (.agg #[.int .i64 0, .int .i64 0, .int .i64 0]), 3, 24) := by kernel_rfl

def stCells (t : Int × Int × Int) : List Value := [.int .i64 t.1, .int .i64 t.2.1, .int .i64 t.2.2]
/-- the cells of the first states -/
def runCells (c s l : Int) (xs : List Int) (n : Nat) : List Value := (List.range n).flatMap fun i => stCells (stAt c s l xs i)
def preCells (c s l : Int) (xs : List Int) (pre : List (Fin xs.length)) : List Value := pre.flatMap fun i => stCells (stAt c s l xs i.val)

theorem preCells_snoc (c s l : Int) (xs : List Int) (pre : List (Fin xs.length)) (x : Fin xs.length) : preCells c s l xs (pre ++ [x]) = preCells c s l xs pre ++ [.int .i64 (stAt c s l xs x.val).1, .int .i64 (stAt c s l xs x.val).2.1, .int .i64 (stAt c s l xs x.val).2.2] := by
  simp [preCells, stCells]
theorem preCells_all (c s l : Int) (xs : List Int) : preCells c s l xs (List.finRange xs.length) = runCells c s l xs xs.length := by
  unfold preCells runCells
  have h : List.range xs.length = (List.finRange xs.length).map (·.val) := by
    apply List.ext_getElem <;> simp
  rw [h, List.flatMap_map]

def RunPost (d : Int) (c s l : Int) (xs : List Int) (w : World) (e : Ending) (w' : World) : Prop :=
  Below w.heap.size w w' ∧ (d = 0 → ∃ v, FlatSl w' v xs.length (runCells c s l xs xs.length) ∧ (∀ b, v.ownBlock = some b → w.heap.size ≤ b) ∧ e = .returned (.tuple #[v, .int .i64 0])) ∧ (d ≠ 0 → e = .returned (.tuple #[.slice none 0 0, .int .i64 d]))

set_option maxRecDepth 100000 in
set_option maxHeartbeats 4000000 in
theorem Run_any (c l s q : Int) (v : Value) (xs : List Int) (w : World) (hv : IntSl w v xs) (hm : xs.length ≤ 140737488355328) :
    Calls Try.prog 21 #[rV c l s q, v] w (RunPost (demF c l s q xs) c s l xs w) := by
  obtain ⟨a, cap, hva⟩ := hv.len
  obtain ⟨d, hd⟩ : ∃ d, demF c l s q xs = d := ⟨_, rfl⟩
  have hd2 := Lib.hid hd
  clear hd
  have hdem := dem_box c l s q v xs w hv hm
  have hvlt : ∀ b, 0 < xs.length → v.ownBlock = some b → b < w.heap.size := by
    intro b hn hb
    obtain ⟨b', off, cap', he, hc⟩ := hv.at hn
    rw [he] at hb
    cases hb
    exact lt_of_cell hc
  subst hva
  rw [hd2.out]
  refine (callsIn_wide (n := 9)).1 ?_
  refine callsIn_of_wp_marks Try.func21 rfl trivial ?_ rfl
  simp only [Try.ntmps21, List.size_toArray, List.length_cons, List.length_nil, Nat.reduceAdd, Nat.reduceSub, Array.replicate_succ, Array.replicate_zero, List.push_toArray, List.append_toArray, List.nil_append, List.cons_append]
  gi_wp2_with fail
  refine ⟨trivial, ?_⟩
  refine (callsIn_wide.2 hdem).mono ?_
  rintro e w1 ⟨rfl, hbh⟩
  rw [hd2.out]
  have hv2 := hbh.hv
  have hB := hbh.below
  have bR := hbh.box
  have r0 := (bR.alloc (.cells #[.slice none 0 0] 47)).cell 0 rfl
  have r1 := (bR.alloc (.cells #[.slice none 0 0] 47)).cell 1 rfl
  have r2 := (bR.alloc (.cells #[.slice none 0 0] 47)).cell 2 rfl
  have r3 := (bR.alloc (.cells #[.slice none 0 0] 47)).cell 3 rfl
  clear hbh hdem
  by_cases h0 : d = 0
  · subst h0
    have ho := okay_of hd2.out
    gi_wp2_with (refine ⟨trivial, ?_⟩; gi_at_call 38; refine (callsIn_wide.2 (states_any _ _ _ _ _ a xs.length cap rfl _)).mono ?_; rintro e w' ⟨rfl, rfl⟩)
    have hsz : (((w1.alloc (.cells #[.slice none 0 0] 47)).alloc (.cells #[.int .i64 c, .int .i64 l, .int .i64 s, .int .i64 q] 28)).alloc (.cells #[.slice a xs.length cap] 29)).heap.size = w1.heap.size + 3 := by simp
    have b7 := ((BoxC.new w1 47 #[.slice none 0 0]).alloc (.cells #[.int .i64 c, .int .i64 l, .int .i64 s, .int .i64 q] 28)).alloc (.cells #[.slice a xs.length cap] 29)
    have b8 := (BoxC.new (w1.alloc (.cells #[.slice none 0 0] 47)) 28 #[.int .i64 c, .int .i64 l, .int .i64 s, .int .i64 q]).alloc (.cells #[.slice a xs.length cap] 29)
    have b9 := BoxC.new ((w1.alloc (.cells #[.slice none 0 0] 47)).alloc (.cells #[.int .i64 c, .int .i64 l, .int .i64 s, .int .i64 q] 28)) 29 #[.slice a xs.length cap]
    have hbW : Below w1.heap.size w1 (((w1.alloc (.cells #[.slice none 0 0] 47)).alloc (.cells #[.int .i64 c, .int .i64 l, .int .i64 s, .int .i64 q] 28)).alloc (.cells #[.slice a xs.length cap] 29)) := (((Below.refl _ w1).alloc (Nat.le_refl _) _).alloc (by simp) _).alloc (by simp; omega) _
    simp only [World.size_alloc] at b8 b9
    have hv3 := hv2.mono hbW
    have hB0 := hB.trans (hbW.mono hB.size)
    generalize (((w1.alloc (.cells #[.slice none 0 0] 47)).alloc (.cells #[.int .i64 c, .int .i64 l, .int .i64 s, .int .i64 q] 28)).alloc (.cells #[.slice a xs.length cap] 29)) = W0 at hsz b7 b8 b9 hbW hv3 hB0 ⊢
    clear r0 r1 r2 r3
    have hs1 := hB.size
    obtain ⟨i0, hi, hz0, hz1, hz2⟩ := info_parts info40
    refine wpIn_rangeFunc_ownH rfl (by omega) (gf := 46) (lb := #[.pointer (some ⟨w1.heap.size + 1, 0, none⟩), .pointer (some ⟨w1.heap.size + 1 + 1, 0, none⟩)]) rfl trivial (enters_of Try.func46 (by kernel_rfl) rfl)
      (states_stops 8 (by omega) (fun k => k = w1.heap.size) (some w1.heap.size) w.heap.size c l s q _ xs ho W0 _ _ (b8.cell 0 rfl) (b8.cell 1 rfl) (b8.cell 2 rfl) (b8.cell 3 rfl) (b9.cell 0 rfl) hv3 hvlt (by intro b hb; cases hb; omega) ?hfp)
      Keeps.trans (Keeps.putObj (by intro b hb; cases hb; omega)) (Below.refl _ _) (fun _ => rfl)
      (fun pre W => (∃ v, Boxed W w1.heap.size 47 v ∧ W.ownsRow w.heap.size 40 3 v pre.length (preCells c s l xs pre) ∧ True) ∧ Below w.heap.size w W)
      (fun _ _ _ => False)
      (OwnFrom.and (Own.from (holdsRow_own w.heap.size w1.heap.size 47 40 3 (fun pre : List (Fin xs.length) => pre.length) (fun pre => preCells c s l xs pre) (fun _ _ => True)) _) (ownFrom_below (Nat.le_refl _) (by omega)))
      (fun _ _ _ _ _ hs _ _ => hs)
      ⟨⟨_, b7, World.ownsRow_nil _ _ _ _, trivial⟩, hB0⟩
      (fun x a' W => ∃ Bx, w1.heap.size < Bx ∧ BoxC W Bx 40 #[.int .i64 (stAt c s l xs x.val).1, .int .i64 (stAt c s l xs x.val).2.1, .int .i64 (stAt c s l xs x.val).2.2] ∧ a' = { tmps := #[.agg #[.int .i64 c, .int .i64 l, .int .i64 s, .int .i64 q], .slice a xs.length cap, .pointer (some ⟨w.heap.size, 0, none⟩), undef, .slice none 0 0, .int .i64 0, .int .i64 0, .pointer (some ⟨w1.heap.size, 0, none⟩), undef, .pointer (some ⟨Bx, 0, none⟩),
        .agg #[.int .i64 c, .int .i64 l, .int .i64 s, .int .i64 q], .slice a xs.length cap, .int .i64 0, .int .i64 0, .bool false, undef, .agg #[.int .i64 c, .int .i64 l, .int .i64 s, .int .i64 q], .slice a xs.length cap, .func (.func 46) #[] #[.pointer (some ⟨w1.heap.size + 1, 0, none⟩), .pointer (some ⟨w1.heap.size + 1 + 1, 0, none⟩)], .int .i64 (x.val : Int), stV (stAt c s l xs x.val), undef, undef, undef, undef, undef], defers := [] })
      ?hAx ?assign ?body ?done ?stop
    case hfp =>
      rintro k (hk | ⟨b, v, hb, hv, hk⟩)
      · subst hk; omega
      · cases hb
        rw [b7.cell 0 rfl] at hv
        cases hv
        cases hk
    case hAx =>
      rintro x a' _ X Y row ⟨Bx, h1, h2, h3⟩ hg hr
      exact ⟨Bx, h1, boxC_own Bx 40 (fun (_ : Unit) => #[Value.int .i64 (stAt c s l xs x.val).1, .int .i64 (stAt c s l xs x.val).2.1, .int .i64 (stAt c s l xs x.val).2.2]) () X Y row h2 hg (fun r e => (hr r e).2), h3⟩
    case assign =>
      rintro j pre x W K ⟨⟨u, hI1, hI2, _⟩, hI3⟩ hK
      have hb := (Below.refl W.heap.size W).alloc (Nat.le_refl _) (.cells #[.int .i64 (stAt c s l xs x.val).1, .int .i64 (stAt c s l xs x.val).2.1, .int .i64 (stAt c s l xs x.val).2.2] 40)
      simp only [encS, stV]
      gi_wp2
      exact hK _ _ (keepsFrom_grown hb) (Keeps.grown hb (by intro b hb; cases hb; exact hI1.lt)) ⟨⟨u, hI1.alloc _, hI2.alloc _, trivial⟩, hI3.trans (hb.mono hI3.size)⟩ ⟨W.heap.size, hI1.lt, BoxC.new W 40 _, rfl⟩
    case body =>
      rintro j pre x a' W hl ⟨r, hr⟩ ⟨⟨u, hI1, hI2, _⟩, hI3⟩ ⟨Bx, hBx, bX, rfl⟩ hlt
      have c2 := hI1.cell
      have c3 := bX.cell 0 rfl
      have c4 := bX.cell 1 rfl
      have c5 := bX.cell 2 rfl
      have hn1 := ho.n1
      have hWs := hI3.size
      gi_wp2_with (gi_at_builtin; refine wpListIn_append_own2 _ rfl _ _ 47 rfl w.heap.size 40 i0 _ 3 24 Try.underlying47 hi hz0 hz1 hz2 rfl (by decide) _ _ _ rfl (hI2.alloc _) ⟨W.heap.size, 0, none⟩ 1 1 (stCells (stAt c s l xs x.val)) rfl rfl (cells_new _ _ _) (by simp [Value.oneCell', stCells]) (by unfold maxLen; omega) (by omega) (by simp; omega) ?_; intro v' w1' hown' hgrow hwhere; obtain ⟨g', cap', rfl⟩ := ownsRow_succ hown'; have hq1 := (hI1.alloc _).kept hgrow (hI1.not_row (by decide) hI2); have hq2 := hq1.cell; have hq3 := hq1.frozen)
      have hap := hI1.appended (by decide) hI2 hWs hs1 hown' hgrow
      refine ⟨hap.2.2.2.1.from _, Keeps.appended hI1 (by decide) hI2 rfl hgrow hwhere, ⟨⟨_, hap.2.1, ?_, trivial⟩, hI3.trans hap.2.2.2.2⟩⟩
      rw [preCells_snoc, List.length_append]
      exact hap.2.2.1
    case done =>
      rintro D ys W hD rfl ⟨⟨u, hI1, hI2, _⟩, hI3⟩ hK
      have c2 := hI1.cell
      gi_wp2
      refine endM hK (v := .tuple #[u, .int .i64 0]) (by simp [results, Try.f21, go_sem]) ⟨below_putObj hI3 _ (by omega) hK, fun _ => ⟨u, ?_, ?_, rfl⟩, fun h => absurd rfl h⟩
      · have hI4 := FlatSl.of_owns (ownsRow_put hI2 (.deferred none) hK rfl)
        rw [preCells_all, List.length_finRange] at hI4
        exact hI4
      · intro b hb
        rcases hI2.2 with ⟨rfl, _⟩ | ⟨g, cap, cur, rfl, h3, _⟩
        · cases hb
        · cases hb; exact h3
    case stop =>
      rintro D e pre W hD hpre h hK
      exact h.elim
  · have h0' : (d == 0) = false := by simpa using h0
    gi_wp2
    exact endM0 (v := .tuple #[.slice none 0 0, .int .i64 d]) (by simp [results, Try.f21, go_sem]) ⟨hB, fun h => absurd h h0, fun _ => rfl⟩
end Go.Proofs.Ytbflocamicebhaa
