/- The contract of Run: the states behind all steps. Conditions: lists of at most 2^62 elements. -/
import Derived.Test.YtfefocgekmeahaaW13
namespace Go.Proofs.Ytfefocgekmeahaa
open Go.RowKit Go.Shelf
attribute [local go_sem] Oper.semAt_some

theorem info44 : (Try.prog.info? 44).map (fun i => (i.zero, i.size, i.bytes)) = some (some (.agg #[.slice none 0 0, .slice none 0 0, .slice none 0 0]), 3, 72) := by kernel_rfl

/-- v reads in w as N states, the i-th one f i -/
def StsSl (w : World) (v : Value) (N : Nat) (f : Nat → St) : Prop :=
  (N = 0 ∧ ∃ a cap, v = .slice a 0 cap) ∨ ∃ b off cap, v = .slice (some ⟨b, off, none⟩) N cap ∧ b < w.heap.size ∧
    ∀ i, i < N → ∃ u1 u2 u3, w.cell? ⟨b, off + i * 3, none⟩ = some u1 ∧ w.cell? ⟨b, off + i * 3 + 1, none⟩ = some u2 ∧ w.cell? ⟨b, off + i * 3 + 2, none⟩ = some u3 ∧ StSl w u1 u2 u3 (f i)
section
variable {w w' : World} {v : Value} {N : Nat} {f : Nat → St}
theorem StsSl.len (h : StsSl w v N f) : ∃ a cap, v = .slice a N cap := by
  rcases h with ⟨rfl, a, cap, rfl⟩ | ⟨b, off, cap, rfl, _, _⟩
  · exact ⟨a, cap, rfl⟩
  · exact ⟨_, cap, rfl⟩
theorem StsSl.mono (h : StsSl w v N f) (hb : Below w.heap.size w w') : StsSl w' v N f := by
  rcases h with h | ⟨b, off, cap, rfl, hl, hc⟩
  · exact .inl h
  · refine .inr ⟨b, off, cap, rfl, Nat.lt_of_lt_of_le hl hb.size, fun i hi => ?_⟩
    obtain ⟨u1, u2, u3, h1, h2, h3, h4⟩ := hc i hi
    exact ⟨u1, u2, u3, (hb.cell (p := ⟨b, _, none⟩) hl).trans h1, (hb.cell (p := ⟨b, _, none⟩) hl).trans h2, (hb.cell (p := ⟨b, _, none⟩) hl).trans h3, h4.mono hb⟩
theorem StsSl.at (h : StsSl w v N f) {k : Nat} (hk : k < N) : ∃ b off cap, v = .slice (some ⟨b, off, none⟩) N cap ∧ b < w.heap.size ∧
    ∀ i, i < N → ∃ u1 u2 u3, w.cell? ⟨b, off + i * 3, none⟩ = some u1 ∧ w.cell? ⟨b, off + i * 3 + 1, none⟩ = some u2 ∧ w.cell? ⟨b, off + i * 3 + 2, none⟩ = some u3 ∧ StSl w u1 u2 u3 (f i) := by
  rcases h with ⟨rfl, _⟩ | h
  · omega
  · exact h
end

/-- the cells of what came -/
def ydCells (n : Nat) (x : Yd) : List Value := [.slice x.a1 n x.c1, .slice x.a2 n x.c2, .slice x.a3 n x.c3]
def preC (n : Nat) (pre : List Yd) : List Value := (pre.map (ydCells n)).flatten
theorem preC_snoc (n : Nat) (pre : List Yd) (x : Yd) : preC n (pre ++ [x]) = preC n pre ++ ydCells n x := by simp [preC]
theorem preC_len (n : Nat) (pre : List Yd) : (preC n pre).length = pre.length * 3 := by
  induction pre with
  | nil => rfl
  | cons x pre ih => simp only [preC, List.map_cons, List.flatten_cons, List.length_append, List.length_cons] at ih ⊢; rw [ih]; simp [ydCells]; omega
theorem preC_at (n : Nat) : ∀ (pre : List Yd) (i j : Nat) (x : Yd), pre[i]? = some x → j < 3 → (preC n pre)[i * 3 + j]? = (ydCells n x)[j]?
  | [], i, j, x, h, _ => by simp at h
  | y :: pre, 0, j, x, h, hj => by
    simp at h
    subst h
    have : preC n (y :: pre) = ydCells n y ++ preC n pre := rfl
    rw [this, List.getElem?_append_left (by simp [ydCells]; omega)]
    simp
  | y :: pre, i + 1, j, x, h, hj => by
    have ih := preC_at n pre i j x (by simpa using h) hj
    have : preC n (y :: pre) = ydCells n y ++ preC n pre := rfl
    rw [this, List.getElem?_append_right (by simp [ydCells]; omega), ← ih]
    congr 1
    simp [ydCells]
    omega

/-- what all that came reads as -/
def AllCn (ns : List Nd) (sup : Int) (dss : List (List Int)) (m : Nat → Prop) (B : Option Nat) (Q : Nat) (pre : List Yd) (W : World) : Prop :=
  ∀ j x, pre[j]? = some x → StSl W (.slice x.a1 ns.length x.c1) (.slice x.a2 ns.length x.c2) (.slice x.a3 ns.length x.c3) (runT ns sup dss (j + 1)) ∧
    Apart m B Q ns.length (.slice x.a1 ns.length x.c1) W ∧ Apart m B Q ns.length (.slice x.a2 ns.length x.c2) W ∧ Apart m B Q ns.length (.slice x.a3 ns.length x.c3) W
theorem NumSl.lenN {K : IntKind} {w : World} {a : Option Addr} {n c : Nat} {xs : List Int} (h : NumSl K w (.slice a n c) xs) : xs.length = n := by
  obtain ⟨_, _, e⟩ := h.len
  injection e with _ e2 _
  exact e2.symm
theorem Apart.keeps {m : Nat → Prop} {B : Option Nat} {Q n : Nat} {v : Value} {W W' : World} (h : Apart m B Q n v W) (hk : Keeps m B W W') : Apart m B Q n v W' := fun b hn hbb => by
  obtain ⟨z1, z2, z3⟩ := h b hn hbb
  have := hk.size
  refine ⟨fun hf => ?_, by omega, z3⟩
  rcases hk.foot b hf with h1 | h1
  · exact z1 h1
  · omega
section
variable {ns : List Nd} {sup : Int} {dss : List (List Int)} {m : Nat → Prop} {B : Option Nat} {Q : Nat} {pre : List Yd} {W W' : World}
theorem AllCn.keeps (h : AllCn ns sup dss m B Q pre W) (hk : Keeps m B W W') : AllCn ns sup dss m B Q pre W' := fun j x hx => by
  obtain ⟨⟨h1, h2, h3⟩, a1, a2, a3⟩ := h j x hx
  exact ⟨⟨h1.keeps hk (fun b hb h0 => (a1 b (by have := h1.lenN; omega) hb).1), h2.keeps hk (fun b hb h0 => (a2 b (by have := h2.lenN; omega) hb).1), h3.keeps hk (fun b hb h0 => (a3 b (by have := h3.lenN; omega) hb).1)⟩, a1.keeps hk, a2.keeps hk, a3.keeps hk⟩
/-- a change of one block that none of the rows is, and that is not the box's -/
theorem AllCn.kept {row : Option Nat} (h : AllCn ns sup dss m B Q pre W) (hg : W.grownBy W' row) (hB : ∀ b, B = some b → b < W.heap.size ∧ row ≠ some b) (hrow : ∀ r, row = some r → r = Q ∨ ∃ o : Obj, W.heap[r]? = some o ∧ o.isCells = false) : AllCn ns sup dss m B Q pre W' := fun j x hx => by
  obtain ⟨⟨h1, h2, h3⟩, a1, a2, a3⟩ := h j x hx
  have hsz := hg.size
  have ne : ∀ (vv : Value) (xs : List Int) (n : Nat), NumSl .i64 W vv xs → xs.length = n → Apart m B Q n vv W → ∀ b, vv.ownBlock = some b → 0 < xs.length → row ≠ some b := fun vv xs n hn hl ha b hb h0 e => by
    obtain ⟨_, z2, z3⟩ := ha b (by omega) hb
    rcases hrow b e with h5 | ⟨o, ho, hc⟩
    · exact z3 h5
    · obtain ⟨b', off, cap, rfl, hcell⟩ := hn.at h0
      obtain rfl : b' = b := by simpa [Value.ownBlock] using hb
      obtain ⟨o', ho', hc'⟩ := cells_of_cell (hcell 0 h0)
      rw [show W.heap[b']? = some o' from ho'] at ho
      cases ho
      rw [hc] at hc'
      cases hc'
  have ap : ∀ (vv : Value), Apart m B Q ns.length vv W → Apart m B Q ns.length vv W' := fun vv ha b hn hb => by
    obtain ⟨z1, z2, z3⟩ := ha b hn hb
    exact ⟨fun hf => z1 ((fpB_same (fun b hb => World.cell?_of_block (a := ⟨b, 0, none⟩) (hg.block b (hB b hb).1 (fun e => (hB b hb).2 e.symm))) b).1 hf), by omega, z3⟩
  exact ⟨⟨h1.kept hg (ne _ _ _ h1 h1.lenN a1), h2.kept hg (ne _ _ _ h2 h2.lenN a2), h3.kept hg (ne _ _ _ h3 h3.lenN a3)⟩, ap _ a1, ap _ a2, ap _ a3⟩
theorem AllCn.snoc (h : AllCn ns sup dss m B Q pre W) {x : Yd} (hx : ydCn ns sup dss m B Q pre x W) : AllCn ns sup dss m B Q (pre ++ [x]) W := fun j y hy => by
  obtain ⟨_, h1, h2⟩ := hx
  rcases Nat.lt_or_ge j pre.length with hj | hj
  · rw [List.getElem?_append_left hj] at hy
    exact h j y hy
  · rw [List.getElem?_append_right hj] at hy
    obtain rfl : j = pre.length := by
      rcases Nat.lt_or_ge (j - pre.length) 1 with h3 | h3
      · omega
      · rw [List.getElem?_eq_none (by simpa using h3)] at hy; cases hy
    rw [Nat.sub_self] at hy
    simp at hy
    subst hy
    rw [← h1]
    exact h2
end

theorem ownsRow_kept {W W' : World} {row : Option Nat} {base : Nat} {e : TypeId} {size : Nat} {v : Value} {k : Nat} {xs : List Value} (h : W.ownsRow base e size v k xs) (hg : W.grownBy W' row) (hne : ∀ b, v.ownBlock = some b → row ≠ some b) : W'.ownsRow base e size v k xs := by
  obtain ⟨h1, h2 | ⟨g, cap, cur, rfl, h3, h4, h5⟩⟩ := h
  · exact ⟨h1, .inl h2⟩
  · exact ⟨h1, .inr ⟨g, cap, cur, rfl, h3, (hg.block g (heap_lt h4) (fun e => hne g rfl e.symm)).trans h4, h5⟩⟩

/-- behind Run: the states, or the error -/
def RunPost (sup : Int) (ns : List Nd) (dss : List (List Int)) (w : World) (e : Ending) (w' : World) : Prop :=
  ∃ v, e = .returned (.tuple #[v, .int .i64 (caF sup ns dss)]) ∧ Below w.heap.size w w' ∧ (caF sup ns dss = 0 → StsSl w' v dss.length (fun i => runT ns sup dss (i + 1))) ∧ (caF sup ns dss ≠ 0 → v = .slice none 0 0)

set_option maxRecDepth 100000 in
set_option maxHeartbeats 8000000 in
theorem Run_any (sup : Int) (v : Value) (ns : List Nd) (u : Value) (dss : List (List Int)) (w : World) (hv : NdSl w v ns) (hu : SlSl w u dss) (hf : DssFit ns dss) :
    Calls Try.prog 18 #[plV sup v, u] w (RunPost sup ns dss w) := by
  have hB := (Below.refl w.heap.size w).alloc (Nat.le_refl _) (.cells #[.int .i64 sup, v] 24)
  have bP := BoxC.new w 24 #[.int .i64 sup, v]
  have hv1 := hv.mono hB
  have hu1 := hu.mono hB
  obtain ⟨av, cv, rfl⟩ := hv.len
  obtain ⟨au, cu, rfl⟩ := hu.len
  have hck := checkAll_any sup _ ns _ dss _ hv1 hu1 hf
  unfold RunPost
  obtain ⟨d, hd⟩ : ∃ d, caF sup ns dss = d := ⟨_, rfl⟩
  rw [hd] at hck ⊢
  replace hck := Lib.hid hck
  replace hd := Lib.hid hd
  refine (callsIn_wide (n := 9)).1 ?_
  refine callsIn_of_wp_marks Try.func18 rfl trivial ?_ rfl
  simp only [Try.ntmps18, List.size_toArray, List.length_cons, List.length_nil, Nat.reduceAdd, Nat.reduceSub, Array.replicate_succ, Array.replicate_zero, List.push_toArray, List.append_toArray, List.nil_append, List.cons_append]
  gi_wp2_with fail
  refine ⟨trivial, ?_⟩
  refine (callsIn_wide.2 hck.out).mono ?_
  rintro e w1 ⟨rfl, hb⟩
  have hB1 := hB.trans (hb.mono hB.size)
  replace bP := bP.grown hb
  have hvw := hv1.mono hb
  have huw := hu1.mono hb
  clear hck hb hB hv1 hu1
  by_cases h0 : d = 0
  · subst h0
    obtain ⟨⟨hs0, hs1⟩, hp, hdl, hds⟩ := caF_ok hd.out
    have c0 := (bP.alloc (.cells #[.slice none 0 0] 35)).cell 0 rfl
    have c1 := (bP.alloc (.cells #[.slice none 0 0] 35)).cell 1 rfl
    gi_wp2_with (refine ⟨trivial, ?_⟩; gi_at_call 41; refine (callsIn_wide.2 (states_any sup _ _ av au ns.length cv dss.length cu rfl rfl _)).mono ?_; rintro e w' ⟨rfl, rfl⟩)
    clear c0 c1
    have b7 := ((BoxC.new w1 35 #[.slice none 0 0]).alloc (.cells #[.int .i64 sup, .slice av ns.length cv] 24)).alloc (.cells #[.slice au dss.length cu] 25)
    have b8 := (BoxC.new (w1.alloc (.cells #[.slice none 0 0] 35)) 24 #[.int .i64 sup, .slice av ns.length cv]).alloc (.cells #[.slice au dss.length cu] 25)
    have b9 := BoxC.new ((w1.alloc (.cells #[.slice none 0 0] 35)).alloc (.cells #[.int .i64 sup, .slice av ns.length cv] 24)) 25 #[.slice au dss.length cu]
    simp only [World.size_alloc] at b8 b9
    have hbW : Below w1.heap.size w1 (((w1.alloc (.cells #[.slice none 0 0] 35)).alloc (.cells #[.int .i64 sup, .slice av ns.length cv] 24)).alloc (.cells #[.slice au dss.length cu] 25)) := (((Below.refl _ w1).alloc (Nat.le_refl _) _).alloc (by simp) _).alloc (by simp; omega) _
    have hsz : (((w1.alloc (.cells #[.slice none 0 0] 35)).alloc (.cells #[.int .i64 sup, .slice av ns.length cv] 24)).alloc (.cells #[.slice au dss.length cu] 25)).heap.size = w1.heap.size + 3 := by simp
    have hB0 := hB1.trans (hbW.mono hB1.size)
    generalize (((w1.alloc (.cells #[.slice none 0 0] 35)).alloc (.cells #[.int .i64 sup, .slice av ns.length cv] 24)).alloc (.cells #[.slice au dss.length cu] 25)) = W0 at b7 b8 b9 hbW hsz hB0 ⊢
    obtain ⟨i0, hi, hz0, hz1, hz2⟩ := info_parts info44
    have hws := hB1.size
    refine wpIn_range_told rfl (by omega) (gf := 50) (lb := #[.pointer (some ⟨w1.heap.size + 1, 0, none⟩), .pointer (some ⟨w1.heap.size + 1 + 1, 0, none⟩)]) rfl trivial (enters_of Try.func50 (by kernel_rfl) rfl)
      (states_told 8 (by omega) (fun k => k = w1.heap.size) (some w1.heap.size) sup _ _ ns dss hp hs0 hs1 hds hdl w1 W0 _ _ b8 b9 hvw huw (Old.of_below hbW) (by intro b hb; cases hb; omega) ?hfp)
      Keeps.trans (Keeps.putObj (by intro b hb; cases hb; omega)) (Below.refl _ _) (fun _ => rfl)
      (fun Q pre W => (∃ u, Boxed W w1.heap.size 35 u ∧ W.ownsRow w.heap.size 44 3 u pre.length (preC ns.length pre) ∧ u.ownBlock ≠ some Q) ∧ AllCn ns sup dss (fun k => k = w1.heap.size) (some w1.heap.size) Q pre W ∧ Below w.heap.size w W)
      (fun _ _ _ _ => False)
      ?hI (fun _ _ _ _ _ _ _ hs _ _ => hs) (fun Q pre x W l r r' => ydCn_put Q pre x W l r r') ?h0 (fun Q pre x W W' hs h hb => ydCn_below h hb (by intro b hb; cases hb; omega)) (fun W W' hs hb => Keeps.grown hb (by intro b hb; cases hb; omega))
      (fun x a' W => ∃ Bx, BoxC W Bx 44 #[.slice x.a1 ns.length x.c1, .slice x.a2 ns.length x.c2, .slice x.a3 ns.length x.c3] ∧ a' = { tmps := #[plV sup (.slice av ns.length cv), .slice au dss.length cu, .pointer (some ⟨w.heap.size, 0, none⟩), undef, .slice none 0 0, .int .i64 0, .int .i64 0, .pointer (some ⟨w1.heap.size, 0, none⟩), undef, .pointer (some ⟨Bx, 0, none⟩), plV sup (.slice av ns.length cv), .slice au dss.length cu, .int .i64 0, .int .i64 0, .bool false, undef, plV sup (.slice av ns.length cv), .slice au dss.length cu, .func (.func 50) #[] #[.pointer (some ⟨w1.heap.size + 1, 0, none⟩), .pointer (some ⟨w1.heap.size + 1 + 1, 0, none⟩)], .int .i64 x.i, stV (.slice x.a1 ns.length x.c1) (.slice x.a2 ns.length x.c2) (.slice x.a3 ns.length x.c3), undef, undef, undef, undef, undef], defers := [] })
      ?hAx ?assign ?body ?done ?stop
    case hfp =>
      rintro k (hk | ⟨b, v, hb, hv, hk⟩)
      · subst hk; omega
      · cases hb
        rw [b7.cell 0 rfl] at hv
        cases hv
        cases hk
    case hI =>
      intro Q hQ
      refine ⟨?_, ?_⟩
      · rintro s A C row ⟨⟨u, h1, h2, h3⟩, h4, h5⟩ hg hr
        have hne : row ≠ some w1.heap.size := fun e => by
          obtain ⟨_, o, ho, hc⟩ := hr _ e
          rw [show A.heap[w1.heap.size]? = _ from h1] at ho
          cases ho
          cases hc
        refine ⟨⟨u, h1.kept hg (fun e => hne e.symm), ownsRow_kept h2 hg ?_, h3⟩, h4.kept hg ?_ (fun r e => .inr (hr r e).2), ownFrom_below (β := Unit) (n₀ := w.heap.size) (B := W0.heap.size) (Nat.le_refl _) (by omega) () A C row h5 hg hr⟩
        · intro b hb e
          obtain ⟨_, o, ho, hc⟩ := hr _ e
          obtain ⟨_, h6 | ⟨g, cap, cur, rfl, _, h7, _⟩⟩ := h2
          · rw [h6.1] at hb; cases hb
          · obtain rfl : g = b := by simpa [Value.ownBlock] using hb
            rw [h7] at ho
            cases ho
            cases hc
        · intro b hb
          cases hb
          exact ⟨h1.lt, hne⟩
      · rintro s X i u' ⟨⟨u, h1, h2, h3⟩, h4, h5⟩
        have hg := grownBy_setCell X ⟨Q, i, none⟩ u'
        have hne : (some Q : Option Nat) ≠ some w1.heap.size := by intro e; cases e; omega
        refine ⟨⟨u, h1.kept hg (fun e => hne e.symm), ownsRow_kept h2 hg (fun b hb e => h3 (by rw [hb]; exact e.symm)), h3⟩, h4.kept hg ?_ (fun r e => .inl (by cases e; rfl)), h5.setCell (by show w.heap.size ≤ Q; omega) _⟩
        intro b hb
        cases hb
        exact ⟨h1.lt, hne⟩
    case h0 =>
      intro Q hQ W hb _
      exact ⟨⟨_, b7.grown hb, World.ownsRow_nil _ _ _ _, by simp [Value.ownBlock]⟩, fun j x hx => by simp at hx, hB0.trans (hb.mono hB0.size)⟩
    case hAx =>
      rintro x a' _ X Y row ⟨Bx, h2, h3⟩ hg hr
      exact ⟨Bx, boxC_own Bx 44 (fun (_ : Unit) => #[.slice x.a1 ns.length x.c1, .slice x.a2 ns.length x.c2, .slice x.a3 ns.length x.c3]) () X Y row h2 hg (fun r e => (hr r e).2), h3⟩
    case assign =>
      rintro j x W K hK
      have hb := (Below.refl W.heap.size W).alloc (Nat.le_refl _) (.cells #[.slice x.a1 ns.length x.c1, .slice x.a2 ns.length x.c2, .slice x.a3 ns.length x.c3] 44)
      gi_wp2
      exact hK _ _ hb ⟨W.heap.size, BoxC.new W 44 _, rfl⟩
    case body =>
      rintro j Q pre x a' W hl hQ ⟨⟨u, hI1, hI2, hne⟩, hA, hI3⟩ hcn ⟨Bx, bX, rfl⟩ hlt
      have hQW : Q < W.heap.size := hcn.1
      have c2 := hI1.cell
      have c3 := bX.cell 0 rfl
      have c4 := bX.cell 1 rfl
      have c5 := bX.cell 2 rfl
      have hWs := hI3.size
      gi_wp2_with (gi_at_builtin; refine wpListIn_append_own2 _ rfl _ _ 35 rfl w.heap.size 44 i0 _ 3 72 Try.underlying35 hi hz0 hz1 hz2 rfl (by decide) _ _ _ rfl (hI2.alloc _) ⟨W.heap.size, 0, none⟩ 1 1 (ydCells ns.length x) rfl rfl (cells_new _ _ _) (by simp [Value.oneCell', ydCells]) (by unfold maxLen; omega) (by omega) (by simp; omega) ?_; intro v' w1' hown' hgrow hwhere; obtain ⟨g', cap', rfl⟩ := ownsRow_succ hown'; have hq1 := (hI1.alloc _).kept hgrow (hI1.not_row (by decide) hI2); have hq2 := hq1.cell; have hq3 := hq1.frozen)
      have hap := hI1.appended (by decide) hI2 hWs hws hown' hgrow
      have hkp : Keeps (fun k => k = w1.heap.size) (some w1.heap.size) W _ := Keeps.appended hI1 (by decide) hI2 rfl hgrow hwhere
      refine ⟨hap.2.2.2.1.from _, hkp, ⟨⟨_, hap.2.1, ?_, ?_⟩, (hA.snoc hcn).keeps hkp, hI3.trans hap.2.2.2.2⟩⟩
      · rw [preC_snoc, List.length_append]
        exact hap.2.2.1
      · intro e
        rcases hwhere with h1 | h1
        · exact hne (h1.symm.trans e)
        · have := ownsRow_low h1 Q e
          simp at this
          omega
    case done =>
      rintro D Q xs W hD hQ hxs ⟨⟨u, hI1, hI2, hne⟩, hA, hI3⟩ hK
      have c2 := hI1.cell
      have hxl : xs.length = dss.length := by omega
      have hA2 := hA.kept (grownBy_putObj' W D (.deferred none)) (by intro b hb; cases hb; exact ⟨hI1.lt, by intro e; cases e; rw [show W.heap[w1.heap.size]? = _ from hI1] at hK; cases hK⟩) (fun r e => .inr ⟨_, by cases e; exact hK, rfl⟩)
      have hI4 := FlatSl.of_owns (ownsRow_put hI2 (.deferred none) hK rfl)
      gi_wp2
      refine endM hK (v := .tuple #[u, .int .i64 0]) (by simp [results, Try.f18, go_sem]) ⟨_, rfl, below_putObj hI3 _ (by omega) hK, ?_⟩
      rw [hxl] at hI4
      rcases hI4 with ⟨rfl, h0, _⟩ | ⟨b, cap, rfl, hlt, hc⟩
      · exact .inl ⟨h0, none, 0, rfl⟩
      · refine .inr ⟨b, 0, cap, rfl, hlt, fun i hi => ?_⟩
        have hx := List.getElem?_eq_getElem (l := xs) (i := i) (by omega)
        have hg := preC_at ns.length xs i
        refine ⟨_, _, _, hc _ _ ?_, hc _ _ ?_, hc _ _ ?_, (hA2 i _ hx).1⟩
        · exact (congrArg (fun k => (preC ns.length xs)[k]?) (by omega)).trans (hg 0 _ hx (by omega))
        · exact (congrArg (fun k => (preC ns.length xs)[k]?) (by omega)).trans (hg 1 _ hx (by omega))
        · exact (congrArg (fun k => (preC ns.length xs)[k]?) (by omega)).trans (hg 2 _ hx (by omega))
    case stop =>
      rintro D Q e pre W hD _ _ h
      exact h.elim
  · obtain ⟨g1, g2⟩ := neq_of h0
    gi_wp2
    exact endM0 (v := .tuple #[.slice none 0 0, .int .i64 d]) (by simp [results, Try.f18, go_sem]) ⟨_, rfl, hB1, fun h => absurd h h0, fun _ => rfl⟩
end Go.Proofs.Ytfefocgekmeahaa
