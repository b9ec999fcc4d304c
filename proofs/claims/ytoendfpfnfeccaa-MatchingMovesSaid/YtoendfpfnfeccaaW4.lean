/- The contract of solve. Conditions: right costs, at least as many columns as rows. -/
import Derived.Test.YtoendfpfnfeccaaW3b
import Derived.Test.YtoendfpfnfeccaaP5
import Derived.Deep.LoopGhost
import Derived.StillTailTactics
namespace Go.Proofs.Ytoendfpfnfeccaa
open Go.RowKit Go.Shelf

/-- behind a region that makes two rows of zeros -/
def TwoR (N1 N2 : Nat) (W : World) (F : Nat → Nat → Array Value) : Exit → Act → World → Prop := fun e a X =>
  e = .normal ∧ ∃ g1 g2, a = { tmps := F g1 g2, defers := [] } ∧ RowG W.heap.size g1 (rowS g1 N1) N1 (zeros N1) X ∧ RowG W.heap.size g2 (rowS g2 N2) N2 (zeros N2) X ∧ g1 ≠ g2 ∧ W.heap.size ≤ g1 ∧ W.heap.size ≤ g2 ∧ Below W.heap.size W X
def Reg34 (n m gu gv : Nat) (W : World) (F : Nat → Nat → Array Value) : Exit → Act → World → Prop := fun e a X =>
  e = .normal ∧ ∃ gc gp, a = { tmps := F gc gp, defers := [] } ∧ RowG W.heap.size gc (rowS gc n) n (zeros n) X ∧ BoxC X gp 32 #[rowS gc n, .int .i64 0, cut1 gu n, cut1 gv m] ∧ gc ≠ gp ∧ W.heap.size ≤ gc ∧ W.heap.size ≤ gp ∧ Below W.heap.size W X
theorem reg34_a {n m gu gv : Nat} (hn : n ≤ 1000) (W : World) : RowG W.heap.size W.heap.size (rowS W.heap.size n) n (zeros n) ((W.alloc (.cells (madeCells #[.int .i64 0] n) 3)).alloc (.cells #[rowS W.heap.size n, .int .i64 0, cut1 gu n, cut1 gv m] 32)).drew ∧
    BoxC ((W.alloc (.cells (madeCells #[.int .i64 0] n) 3)).alloc (.cells #[rowS W.heap.size n, .int .i64 0, cut1 gu n, cut1 gv m] 32)).drew (W.heap.size + 1) 32 #[rowS W.heap.size n, .int .i64 0, cut1 gu n, cut1 gv m] ∧
    Below W.heap.size W ((W.alloc (.cells (madeCells #[.int .i64 0] n) 3)).alloc (.cells #[rowS W.heap.size n, .int .i64 0, cut1 gu n, cut1 gv m] 32)).drew := by
  have a1 := rowG_new (base := W.heap.size) (n := n) (X := W) hn (Nat.le_refl _)
  have a2 := BoxC.new (W.alloc (.cells (madeCells #[.int .i64 0] n) 3)) 32 #[rowS W.heap.size n, .int .i64 0, cut1 gu n, cut1 gv m]
  simp only [World.size_alloc] at a2
  exact ⟨(a1.grown ((Below.refl _ _).alloc (Nat.le_refl _) _)).drew, a2, (((Below.refl _ W).alloc (Nat.le_refl _) _).alloc (by simp) _).drew⟩
theorem reg34_b {n m gu gv : Nat} (hn : n ≤ 1000) (W : World) : RowG W.heap.size (W.heap.size + 1) (rowS (W.heap.size + 1) n) n (zeros n) ((W.alloc (.cells #[rowS (W.heap.size + 1) n, .int .i64 0, cut1 gu n, cut1 gv m] 32)).alloc (.cells (madeCells #[.int .i64 0] n) 3)).drew ∧
    BoxC ((W.alloc (.cells #[rowS (W.heap.size + 1) n, .int .i64 0, cut1 gu n, cut1 gv m] 32)).alloc (.cells (madeCells #[.int .i64 0] n) 3)).drew W.heap.size 32 #[rowS (W.heap.size + 1) n, .int .i64 0, cut1 gu n, cut1 gv m] ∧
    Below W.heap.size W ((W.alloc (.cells #[rowS (W.heap.size + 1) n, .int .i64 0, cut1 gu n, cut1 gv m] 32)).alloc (.cells (madeCells #[.int .i64 0] n) 3)).drew := by
  have a1 := rowG_new (base := W.heap.size) (n := n) (X := W.alloc (.cells #[rowS (W.heap.size + 1) n, .int .i64 0, cut1 gu n, cut1 gv m] 32)) hn (by simp)
  have a2 := BoxC.new W 32 #[rowS (W.heap.size + 1) n, .int .i64 0, cut1 gu n, cut1 gv m]
  simp only [World.size_alloc] at a1
  exact ⟨a1.drew, a2.grown (((Below.refl _ _).alloc (Nat.le_refl _) _).drew), (((Below.refl _ W).alloc (Nat.le_refl _) _).alloc (by simp) _).drew⟩
/-- the cost of row r and column k, counted from 1 -/
def c1 (css : List (List Int)) (r k : Nat) : Int := nth (nths css (r - 1)) (k - 1)
theorem RowB.low {X : World} {v : Value} {base base' g n : Nat} {xs : List Bool} (h : RowB base g v n xs X) (hb : base' ≤ base) : RowB base' g v n xs X := by
  obtain ⟨q1, q2⟩ := h
  refine ⟨q1, fun hn => ?_⟩
  obtain ⟨cap, q3, q4, q5⟩ := q2 hn
  refine ⟨cap, q3, q4, ?_⟩
  rcases q5 with q5 | ⟨g', cap', cur, r1, r2, r3⟩
  · exact .inl q5
  · exact .inr ⟨g', cap', cur, r1, by omega, r3⟩
theorem rowG_rowB {b1 b2 g g' n n' : Nat} {v v' : Value} {xs : List Int} {ys : List Bool} {W : World} (h : RowG b1 g v n xs W) (h' : RowB b2 g' v' n' ys W) (hn : 0 < n) (hn' : 0 < n') : g ≠ g' := by
  rintro rfl
  obtain ⟨_, _, h1⟩ := h.2 hn
  obtain ⟨_, _, h2⟩ := h'.2 hn'
  rcases h1.2 with ⟨h3, _⟩ | ⟨_, _, _, h3, _, h5, _⟩
  · cases h3
  · cases h3
    rcases h2.2 with ⟨h6, _⟩ | ⟨_, _, _, h6, _, h7, _⟩
    · cases h6
    · cases h6
      rw [h5] at h7
      cases h7
section
variable {m : Nat} {c : Nat → Nat → Int} {far : Int} {u v : Nat → Int} {w : Nat → Nat} {le : Nat → Int} {ord : List Nat} {a r K : Nat} {ws' les' : List Int} {d cur : Int} {x : Nat}
theorem Sc.lower (h : Sc m c far u v w le ord a r K (fun k => (nth ws' k).toNat) (nth les') d x) (h1 : 1 ≤ K) (hm : K ≤ m) (hK : K ∉ ord) (hw : K < ws'.length) (hl : K < les'.length) (hc : c r K - u r - v K = cur) (hlt : cur < nth les' K) :
    Sc m c far u v w le ord a r (K + 1) (fun k => (nth (ws'.set K (a : Int)) k).toNat) (nth (les'.set K cur)) (if cur < d then cur else d) (if cur < d then K else x) := by
  obtain ⟨q1, _⟩ := h.out K (.inl (Nat.le_refl _))
  rw [q1] at hlt
  have e : nth (les'.set K cur) K = cur := by rw [nth_set hl, if_pos rfl]
  refine h.step h1 hm hK (fun k => ?_) (fun k => ?_) (by rw [e]) (by rw [e])
  · rw [nth_set hl, hc, if_pos hlt]
  · rw [nth_set hw, hc, if_pos hlt]
    split
    · simp
    · rfl
theorem Sc.stay (h : Sc m c far u v w le ord a r K (fun k => (nth ws' k).toNat) (nth les') d x) (h1 : 1 ≤ K) (hm : K ≤ m) (hK : K ∉ ord) (hc : c r K - u r - v K = cur) (hlt : ¬ cur < nth les' K) :
    Sc m c far u v w le ord a r (K + 1) (fun k => (nth ws' k).toNat) (nth les') (if nth les' K < d then nth les' K else d) (if nth les' K < d then K else x) := by
  obtain ⟨q1, q2⟩ := h.out K (.inl (Nat.le_refl _))
  rw [q1] at hlt
  refine h.step h1 hm hK (fun k => ?_) (fun k => ?_) rfl rfl
  · rw [hc, if_neg hlt]
    split
    · rename_i e; rw [e, q1]
    · rfl
  · rw [hc, if_neg hlt]
    split
    · rename_i e; rw [e]; exact q2
    · rfl
theorem pos_set {xs : List Int} {i : Nat} (hi : i < xs.length) (b : Nat) (h : ∀ k, 0 ≤ nth xs k) : ∀ k, 0 ≤ nth (xs.set i (b : Int)) k := fun k => by
  rw [nth_set hi]
  split
  · omega
  · exact h k
end
def farI : Int := 1152921504606846976
/-- the operations of region 9 -/
def rg9 (m : Nat) (W : World) : Nat → Value → World → Prop
  | 0, v, X => ∃ b, v = .slice (some ⟨b, 0, none⟩) 1 1 ∧ b < X.heap.size ∧ X.cell? ⟨b, 0, none⟩ = some (.int .i64 farI)
  | 1, v, _ => v = .int .i64 (m : Int)
  | 2, v, _ => v = .int .i64 ((m : Int) + 1)
  | 3, v, X => ∃ g, v = rowS g (m + 1) ∧ RowG W.heap.size g (rowS g (m + 1)) (m + 1) (List.replicate (m + 1) farI) X
  | 4, v, _ => v = .int .i64 (m : Int)
  | 5, v, _ => v = .int .i64 ((m : Int) + 1)
  | 6, v, X => ∃ g, v = rowS g (m + 1) ∧ RowB W.heap.size g (rowS g (m + 1)) (m + 1) (falses (m + 1)) X
  | 7, v, X => ∃ g, v = rowS g (m + 1) ∧ RowG W.heap.size g (rowS g (m + 1)) (m + 1) (List.replicate (m + 1) farI) X
  | _ + 8, _, _ => True
theorem rg9_mono {m : Nat} {W X X' : World} (hb : Below X.heap.size X X') : ∀ (i : Nat) (v : Value), rg9 m W i v X → rg9 m W i v X'
  | 0, _, ⟨b, h1, h2, h3⟩ => ⟨b, h1, Nat.lt_of_lt_of_le h2 hb.size, (hb.cell (p := ⟨b, 0, none⟩) h2).trans h3⟩
  | 1, _, h => h
  | 2, _, h => h
  | 3, _, ⟨g, h1, h2⟩ => ⟨g, h1, h2.grown hb⟩
  | 4, _, h => h
  | 5, _, h => h
  | 6, _, ⟨g, h1, h2⟩ => ⟨g, h1, h2.grown hb⟩
  | 7, _, ⟨g, h1, h2⟩ => ⟨g, h1, h2.grown hb⟩
  | _ + 8, _, _ => trivial
def Reg9 (m : Nat) (W : World) (F : Nat → Nat → Value → Value → Value → Value → Value → Value → Value → Array Value) : Exit → Act → World → Prop := fun e a X =>
  e = .normal ∧ ∃ gl gd x0 x1 x2 x3 x4 x5 x6, a = { tmps := F gl gd x0 x1 x2 x3 x4 x5 x6, defers := [] } ∧ RowG W.heap.size gl (rowS gl (m + 1)) (m + 1) (List.replicate (m + 1) farI) X ∧ RowB W.heap.size gd (rowS gd (m + 1)) (m + 1) (falses (m + 1)) X ∧ Below W.heap.size W X
theorem twoR {N1 N2 : Nat} (h1 : N1 ≤ 1000) (h2 : N2 ≤ 1000) (W : World) : RowG W.heap.size W.heap.size (rowS W.heap.size N1) N1 (zeros N1) ((W.drew.alloc (.cells (madeCells #[.int .i64 0] N1) 3)).alloc (.cells (madeCells #[.int .i64 0] N2) 3)) ∧
    RowG W.heap.size (W.heap.size + 1) (rowS (W.heap.size + 1) N2) N2 (zeros N2) ((W.drew.alloc (.cells (madeCells #[.int .i64 0] N1) 3)).alloc (.cells (madeCells #[.int .i64 0] N2) 3)) ∧
    Below W.heap.size W ((W.drew.alloc (.cells (madeCells #[.int .i64 0] N1) 3)).alloc (.cells (madeCells #[.int .i64 0] N2) 3)) := by
  have a1 := rowG_new (base := W.heap.size) (n := N1) (X := W.drew) h1 (by simp)
  have a2 := rowG_new (base := W.heap.size) (n := N2) (X := W.drew.alloc (.cells (madeCells #[.int .i64 0] N1) 3)) h2 (by simp)
  simp only [World.size_alloc, World.size_drew] at a1 a2
  exact ⟨a1.grown ((Below.refl _ _).alloc (Nat.le_refl _) _), a2, (((Below.refl _ W).drew).alloc (by simp) _).alloc (by simp) _⟩

set_option maxRecDepth 100000 in
set_option maxHeartbeats 8000000 in
theorem solve_any (v : Value) (css : List (List Int)) (w : World) (hv : SlSl w v css) (hn : css.length ≤ 60) (hm : colN css ≤ 200) (hnm : css.length ≤ colN css) (hrl : ∀ i, i < css.length → (nths css i).length = colN css) (hcb0 : ∀ r k, -1000000000 ≤ c1 css r k ∧ c1 css r k ≤ 1000000000) : Calls Try.prog 34 #[v] w (SolPost css css.length (colN css) w) := by
  obtain ⟨n, hne⟩ : ∃ n, css.length = n := ⟨_, rfl⟩
  obtain ⟨m, hme⟩ : ∃ m, colN css = m := ⟨_, rfl⟩
  have hB := (Below.refl w.heap.size w).alloc (Nat.le_refl _) (.cells #[.slice none 0 0, .int .i64 0, .slice none 0 0, .slice none 0 0] 32)
  have b2 := BoxC.new w 32 #[.slice none 0 0, .int .i64 0, .slice none 0 0, .slice none 0 0]
  have hcol := columns_any v css _ (hv.mono hB) (by omega)
  rw [hme] at hcol hm hnm hrl ⊢
  have hv0 := hv
  obtain ⟨av, cv, rfl⟩ := hv.lenN hne
  replace hv0 := Lib.hid hv0
  rw [hne] at hn hnm hrl ⊢
  replace hrl := Lib.hid hrl
  replace hne := Lib.hid hne
  replace hme := Lib.hid hme
  replace hcol := Lib.hid hcol
  clear hv
  replace hcb0 := Lib.hid hcb0
  go_enter Try.func34, Try.ntmps34
  go_wp2_with fail
  refine hcol.out.mono ?_
  rintro e w1 ⟨rfl, rfl⟩
  go_wp2_with fail
  have hmn : ∀ X : World, (Instr.makeSlice 24 (.int .i64 ((n : Int) + 1)) (.int .i64 ((n : Int) + 1))).run Try.prog X = .ok (rowS X.heap.size (n + 1)) (X.alloc (.cells (madeCells #[.int .i64 0] (n + 1)) 3)) := run_make24 (n + 1) (by omega)
  have hmm : ∀ X : World, (Instr.makeSlice 24 (.int .i64 ((m : Int) + 1)) (.int .i64 ((m : Int) + 1))).run Try.prog X = .ok (rowS X.heap.size (m + 1)) (X.alloc (.cells (madeCells #[.int .i64 0] (m + 1)) 3)) := run_make24 (m + 1) (by omega)
  have w1 : IntKind.i64.wrap ((n : Int) + 1) = n + 1 := IntWalk.i64_in _ (by omega)
  have w2 : IntKind.i64.wrap ((m : Int) + 1) = m + 1 := IntWalk.i64_in _ (by omega)
  generalize w.alloc (.cells #[.slice none 0 0, .int .i64 0, .slice none 0 0, .slice none 0 0] 32) = W at hB b2 ⊢
  refine Code.wp_mono (Q := TwoR (n + 1) (m + 1) W (fun g1 g2 => #[.slice av n cv, undef, .pointer (some ⟨w.heap.size, 0, none⟩), .int .i64 (n : Int), .int .i64 (m : Int), rowS g1 (n + 1), rowS g2 (m + 1), undef, undef, undef, undef, undef, undef, undef, undef, undef, undef, undef, undef, undef, undef, undef, .slice av n cv, .int .i64 (n : Int), .slice av n cv, .int .i64 (m : Int), .int .i64 (n : Int), .int .i64 ((n : Int) + 1), rowS g1 (n + 1), .int .i64 (m : Int), .int .i64 ((m : Int) + 1), rowS g2 (m + 1), undef, undef, undef, undef, undef, undef, undef, undef, undef, undef, undef, undef, undef, undef, undef, undef, undef, undef, undef, undef, undef, undef, undef, undef, undef, undef, undef, undef, undef, undef, undef, undef, undef, undef, undef, undef, undef, undef, undef, undef, undef, undef, undef, undef, undef, undef, undef, undef, undef, undef, undef, undef, undef, undef, undef, undef, undef, undef, undef, undef, undef, undef, undef, undef, undef, undef, undef, undef, undef, undef, undef, undef, undef, undef, undef, undef, undef, undef, undef, undef, undef, undef, undef, undef, undef, undef, undef, undef, undef, undef, undef, undef, undef, undef, undef, undef, undef, undef, undef, undef, undef, undef, undef, undef, undef, undef, undef, undef, undef, undef, undef, undef, undef, undef, undef, undef, undef, undef, undef, undef, undef, undef, undef, undef, undef, undef, undef, undef, undef, undef, undef, undef, undef, undef, undef, undef, undef, undef, undef, undef, undef, undef, undef, undef, undef, undef, undef, undef, undef, undef, undef, undef, undef, undef, undef, undef, undef, undef, undef, undef, undef, undef, undef, undef, undef, undef, undef, undef, undef, undef, undef, undef, undef, undef, undef, undef])) ?post2 ?reg2
  case reg2 =>
    have k1 := twoR (N1 := n + 1) (N2 := m + 1) (by omega) (by omega) W
    have k2 := twoR (N1 := m + 1) (N2 := n + 1) (by omega) (by omega) W
    replace k1 := Lib.hid k1
    replace k2 := Lib.hid k2
    go_region
    · exact ⟨rfl, W.heap.size, W.heap.size + 1, rfl, k1.out.1, k1.out.2.1, by omega, Nat.le_refl _, by omega, k1.out.2.2⟩
    · exact ⟨rfl, W.heap.size + 1, W.heap.size, rfl, k2.out.2.1, k2.out.1, by omega, by omega, Nat.le_refl _, k2.out.2.2⟩
  case post2 =>
    rintro e a X ⟨rfl, gu, gv, rfl, hu, hv, huv, hlu, hlv, hBX⟩
    go_wp2_with fail
    have hB' : Below w.heap.size w X := hB.trans (hBX.mono hB.size)
    have hb' := b2.grown hBX
    have hs := hB.size
    have huX := (hu.lt (by omega)).2
    have hvX := (hv.lt (by omega)).2
    refine Code.wp_mono (Q := TwoR (m + 1) (m + 1) X (fun g1 g2 => #[.slice av n cv, undef, .pointer (some ⟨w.heap.size, 0, none⟩), .int .i64 (n : Int), .int .i64 (m : Int), rowS gu (n + 1), rowS gv (m + 1), rowS g1 (m + 1), rowS g2 (m + 1), undef, undef, undef, undef, undef, undef, undef, undef, undef, undef, undef, undef, undef, .slice av n cv, .int .i64 (n : Int), .slice av n cv, .int .i64 (m : Int), .int .i64 (n : Int), .int .i64 ((n : Int) + 1), rowS gu (n + 1), .int .i64 (m : Int), .int .i64 ((m : Int) + 1), rowS gv (m + 1), .int .i64 (m : Int), .int .i64 ((m : Int) + 1), rowS g1 (m + 1), .int .i64 (m : Int), .int .i64 ((m : Int) + 1), rowS g2 (m + 1), undef, undef, undef, undef, undef, undef, undef, undef, undef, undef, undef, undef, undef, undef, undef, undef, undef, undef, undef, undef, undef, undef, undef, undef, undef, undef, undef, undef, undef, undef, undef, undef, undef, undef, undef, undef, undef, undef, undef, undef, undef, undef, undef, undef, undef, undef, undef, undef, undef, undef, undef, undef, undef, undef, undef, undef, undef, undef, undef, undef, undef, undef, undef, undef, undef, undef, undef, undef, undef, undef, undef, undef, undef, undef, undef, undef, undef, undef, undef, undef, undef, undef, undef, undef, undef, undef, undef, undef, undef, undef, undef, undef, undef, undef, undef, undef, undef, undef, undef, undef, undef, undef, undef, undef, undef, undef, undef, undef, undef, undef, undef, undef, undef, undef, undef, undef, undef, undef, undef, undef, undef, undef, undef, undef, undef, undef, undef, undef, undef, undef, undef, undef, undef, undef, undef, undef, undef, undef, undef, undef, undef, undef, undef, undef, undef, undef, undef, undef, undef, undef, undef, undef, undef, undef, undef, undef, undef, undef, undef, undef, undef, undef, undef, undef, undef, undef, undef, undef, undef, undef])) ?post3 ?reg3
    case reg3 =>
      have k1 := twoR (N1 := m + 1) (N2 := m + 1) (by omega) (by omega) X
      replace k1 := Lib.hid k1
      go_region
      · exact ⟨rfl, X.heap.size, X.heap.size + 1, rfl, k1.out.1, k1.out.2.1, by omega, Nat.le_refl _, by omega, k1.out.2.2⟩
      · exact ⟨rfl, X.heap.size + 1, X.heap.size, rfl, k1.out.2.1, k1.out.1, by omega, by omega, Nat.le_refl _, k1.out.2.2⟩
    case post3 =>
      rintro e a Y ⟨rfl, go, gw, rfl, ho, hr, hor, hlo, hlr, hBY⟩
      have hI : SvI w n m gu gv go gw (zeros (n + 1)) (zeros (m + 1)) (zeros (m + 1)) (zeros (m + 1)) Y :=
        ⟨hb'.grown hBY, (hu.low (by omega)).grown hBY, (hv.low (by omega)).grown hBY, ho.low (by omega), hr.low (by omega), hB'.trans (hBY.mono hB'.size)⟩
      have hS : SvS gu gv go gw := ⟨huv, by omega, by omega, by omega, by omega, hor⟩
      have hcb := hcb0.out
      have hO : Out m (c1 css) 1000000000 0 (nth (zeros (n + 1))) (nth (zeros (m + 1))) (fun k => (nth (zeros (m + 1)) k).toNat) := Out.start hcb (fun r => nth_zeros _ _) (fun r => nth_zeros _ _) (fun r => by rw [nth_zeros]; rfl)
      have hoz : (∀ k, 0 ≤ nth (zeros (m + 1)) k) ∧ ∀ k, 0 ≤ nth (zeros (m + 1)) k := ⟨fun k => by rw [nth_zeros]; omega, fun k => by rw [nth_zeros]; omega⟩
      clear hcb
      replace hO := Lib.hid hO
      replace hoz := Lib.hid hoz
      go_wp2_with fail
      go_loopw [9] (fun s wr => ∃ (j : Nat) (us vs os ws : List Int), s = .int .i64 ((j : Int) + 1) ∧ j ≤ n ∧ SvI w n m gu gv go gw us vs os ws wr ∧ Hid (Out m (c1 css) 1000000000 j (nth us) (nth vs) (fun k => (nth os k).toNat)) ∧ Hid ((∀ k, 0 ≤ nth os k) ∧ ∀ k, 0 ≤ nth ws k)) (fun s _ => n + 1 - (intOf s).toNat)
      case atStart => exact ⟨0, _, _, _, _, by simp, by omega, hI, hO, hoz⟩
      case round =>
        clear hI hO hoz hu hv ho hr
        obtain ⟨j, us, vs, os, ws, rfl, hj, hI, hO, hoz⟩ := hrel
        by_cases hjn : j < n
        · have hd1 : decide ((j : Int) + 1 ≤ (n : Int)) = true := decide_eq_true (by omega)
          have hoc := hI.o.cell (i := 0) (by omega)
          have hof := hI.o.frozen (by omega) 0
          go_wp2_with fail
          clear hoc hof
          have hent : ∀ args X, (callFunc 38 args).run Try.prog X = .ok (.enter 38 args) X := enters_of Try.func38 (by kernel_rfl) rfl
          have hI1 := hI.setO hS 0 ((j : Int) + 1)
          generalize wr.setCell ⟨go, 0, none⟩ (.int .i64 ((j : Int) + 1)) = W1 at hI1 ⊢
          clear hI
          have hmb : ∀ X : World, (Instr.makeSlice 51 (.int .i64 ((m : Int) + 1)) (.int .i64 ((m : Int) + 1))).run Try.prog X = .ok (rowS X.heap.size (m + 1)) (X.alloc (.cells (madeCells #[.bool false] (m + 1)) 4)) := run_make51 (m + 1) (by omega)
          have hrep : ∀ (b : Nat) (X : World), X.cell? ⟨b, 0, none⟩ = some (.int .i64 farI) → Calls Try.prog 38 #[.slice (some ⟨b, 0, none⟩) 1 1, .int .i64 ((m : Int) + 1)] X (RepPost farI (m + 1) X) := fun b X h => repeat_any b farI (m + 1) (by omega) (by omega) X h
          refine Code.wp_mono ?post9 (region_made (Q := Reg9 m W1 (fun gl gd x0 x1 x2 x3 x4 x5 x6 => #[.slice av n cv, undef, .pointer (some ⟨w.heap.size, 0, none⟩), .int .i64 (n : Int), .int .i64 (m : Int), rowS gu (n + 1), rowS gv (m + 1), rowS go (m + 1), rowS gw (m + 1), .int .i64 ((j : Int) + 1), .int .i64 0, rowS gl (m + 1), rowS gd (m + 1), u13, u14, u15, u16, u17, u18, undef, undef, undef, .slice av n cv, .int .i64 (n : Int), .slice av n cv, .int .i64 (m : Int), .int .i64 (n : Int), .int .i64 ((n : Int) + 1), rowS gu (n + 1), .int .i64 (m : Int), .int .i64 ((m : Int) + 1), rowS gv (m + 1), .int .i64 (m : Int), .int .i64 ((m : Int) + 1), rowS go (m + 1), .int .i64 (m : Int), .int .i64 ((m : Int) + 1), rowS gw (m + 1), .int .i64 ((j : Int) + 1), .int .i64 (n : Int), .bool true, u41, u42, rowS go (m + 1), .int .i64 ((j : Int) + 1), .pointer (some ⟨go, 0, none⟩), x0, x1, x2, x3, x4, x5, x6, u53, u54, u55, u56, u57, u58, u59, u60, u61, u62, u63, u64, u65, u66, u67, u68, u69, u70, u71, u72, u73, u74, u75, u76, u77, u78, u79, u80, u81, u82, u83, u84, u85, u86, u87, u88, u89, u90, u91, u92, u93, u94, u95, u96, u97, u98, u99, u100, u101, u102, u103, u104, u105, u106, u107, u108, u109, u110, u111, u112, u113, u114, u115, u116, u117, u118, u119, u120, u121, u122, u123, u124, u125, u126, u127, u128, u129, u130, u131, u132, u133, u134, u135, u136, u137, u138, u139, u140, u141, u142, u143, u144, u145, u146, u147, u148, u149, u150, u151, u152, u153, u154, u155, u156, u157, u158, u159, u160, u161, u162, u163, u164, u165, u166, u167, u168, undef, undef, undef, undef, undef, undef, undef, undef, undef, undef, undef, undef, undef, undef, undef, undef, undef, undef, undef, undef, undef, undef, undef, undef, undef, undef, undef, undef, undef, undef, undef, undef, undef, undef, undef, undef, undef, undef, undef])) 8 (fun s => #[.slice av n cv, undef, .pointer (some ⟨w.heap.size, 0, none⟩), .int .i64 (n : Int), .int .i64 (m : Int), rowS gu (n + 1), rowS gv (m + 1), rowS go (m + 1), rowS gw (m + 1), .int .i64 ((j : Int) + 1), .int .i64 0, s 7, u12, u13, u14, u15, u16, u17, u18, undef, undef, undef, .slice av n cv, .int .i64 (n : Int), .slice av n cv, .int .i64 (m : Int), .int .i64 (n : Int), .int .i64 ((n : Int) + 1), rowS gu (n + 1), .int .i64 (m : Int), .int .i64 ((m : Int) + 1), rowS gv (m + 1), .int .i64 (m : Int), .int .i64 ((m : Int) + 1), rowS go (m + 1), .int .i64 (m : Int), .int .i64 ((m : Int) + 1), rowS gw (m + 1), .int .i64 ((j : Int) + 1), .int .i64 (n : Int), .bool true, u41, u42, rowS go (m + 1), .int .i64 ((j : Int) + 1), .pointer (some ⟨go, 0, none⟩), s 0, s 1, s 2, s 3, s 4, s 5, s 6, u53, u54, u55, u56, u57, u58, u59, u60, u61, u62, u63, u64, u65, u66, u67, u68, u69, u70, u71, u72, u73, u74, u75, u76, u77, u78, u79, u80, u81, u82, u83, u84, u85, u86, u87, u88, u89, u90, u91, u92, u93, u94, u95, u96, u97, u98, u99, u100, u101, u102, u103, u104, u105, u106, u107, u108, u109, u110, u111, u112, u113, u114, u115, u116, u117, u118, u119, u120, u121, u122, u123, u124, u125, u126, u127, u128, u129, u130, u131, u132, u133, u134, u135, u136, u137, u138, u139, u140, u141, u142, u143, u144, u145, u146, u147, u148, u149, u150, u151, u152, u153, u154, u155, u156, u157, u158, u159, u160, u161, u162, u163, u164, u165, u166, u167, u168, undef, undef, undef, undef, undef, undef, undef, undef, undef, undef, undef, undef, undef, undef, undef, undef, undef, undef, undef, undef, undef, undef, undef, undef, undef, undef, undef, undef, undef, undef, undef, undef, undef, undef, undef, undef, undef, undef, undef]) (fun i => [u46, u47, u48, u49, u50, u51, u52, u11].getD i undef) [] (rg9 m W1) (fun X => Below W1.heap.size W1 X) (fun _ _ => none) (by kernel_rfl) (by kernel_rfl) ((Below.refl _ _).drew) ?step (fun j u X X' _ h hb => rg9_mono hb j u h) ?tail)
          case step =>
            intro i o hi ho s X hb hd hne
            match i, hi with
            | 0, _ =>
              simp at ho
              subst ho
              refine wp_val (v := .slice (some ⟨X.heap.size, 0, none⟩) 1 1) (X' := X.alloc (.cells #[.int .i64 1152921504606846976] 3)) (by simp [execOp, go_sem]) ⟨_, by simp [Act.put, upd], hb.alloc hb.size _, ⟨X.heap.size, rfl, by simp, by simp [go_sem, farI]⟩, (Below.refl _ X).alloc (Nat.le_refl _) _, fun b h => by simp at h⟩
            | 1, _ =>
              simp at ho
              subst ho
              refine wp_val (v := .int .i64 (m : Int)) (X' := X) (by simp [execOp, go_sem]) ⟨_, by simp [Act.put, upd], hb, rfl, Below.refl _ _, fun b h => by simp at h⟩
            | 2, _ =>
              simp at ho
              subst ho
              simp [Region.binds] at hd
              have hx : s 1 = .int .i64 (m : Int) := hd
              refine wp_val (v := .int .i64 ((m : Int) + 1)) (X' := X) (by simp [execOp, go_sem, hx, w2]) ⟨_, by simp [Act.put, upd], hb, rfl, Below.refl _ _, fun b h => by simp at h⟩
            | 3, _ =>
              simp at ho
              subst ho
              simp [Region.binds] at hd
              obtain ⟨h0, h2⟩ := hd
              obtain ⟨b, h0', hbl, hbc⟩ : ∃ b, s 0 = .slice (some ⟨b, 0, none⟩) 1 1 ∧ b < X.heap.size ∧ X.cell? ⟨b, 0, none⟩ = some (.int .i64 farI) := h0
              have h2' : s 2 = .int .i64 ((m : Int) + 1) := h2
              refine wp_enter (f := 38) (args := #[.slice (some ⟨b, 0, none⟩) 1 1, .int .i64 ((m : Int) + 1)]) (by simp [go_sem, h0', h2', hent]) ((hrep b X hbc).mono ?_)
              rintro e X' ⟨g, rfl, hg, hbX⟩
              exact ⟨_, rfl, _, by simp [Act.put, upd], hb.trans (hbX.mono hb.size), ⟨g, rfl, hg.low hb.size⟩, hbX, fun b h => by simp at h⟩
            | 4, _ =>
              simp at ho
              subst ho
              refine wp_val (v := .int .i64 (m : Int)) (X' := X) (by simp [execOp, go_sem]) ⟨_, by simp [Act.put, upd], hb, rfl, Below.refl _ _, fun b h => by simp at h⟩
            | 5, _ =>
              simp at ho
              subst ho
              simp [Region.binds] at hd
              have hx : s 4 = .int .i64 (m : Int) := hd
              refine wp_val (v := .int .i64 ((m : Int) + 1)) (X' := X) (by simp [execOp, go_sem, hx, w2]) ⟨_, by simp [Act.put, upd], hb, rfl, Below.refl _ _, fun b h => by simp at h⟩
            | 6, _ =>
              simp at ho
              subst ho
              simp [Region.binds] at hd
              have hx : s 5 = .int .i64 ((m : Int) + 1) := hd
              refine wp_val (v := rowS X.heap.size (m + 1)) (X' := X.alloc (.cells (madeCells #[.bool false] (m + 1)) 4)) (by simp [execOp, go_sem, hx, hmb]) ⟨_, by simp [Act.put, upd], hb.alloc hb.size _, ⟨X.heap.size, rfl, rowB_new (by omega) hb.size⟩, (Below.refl _ X).alloc (Nat.le_refl _) _, fun b h => by simp at h⟩
            | 7, _ =>
              simp at ho
              subst ho
              simp [Region.binds] at hd
              obtain ⟨g, hx, hg⟩ : ∃ g, s 3 = rowS g (m + 1) ∧ RowG W1.heap.size g (rowS g (m + 1)) (m + 1) (List.replicate (m + 1) farI) X := hd.1
              refine wp_val (v := rowS g (m + 1)) (X' := X) (by simp [execOp, go_sem, hx]) ⟨_, by simp [Act.put, upd], hb, ⟨g, rfl, hg⟩, Below.refl _ _, fun b h => by simp at h⟩
          case tail =>
            intro o ho s X hb hS _ _
            simp at ho
            subst ho
            obtain ⟨gd, h6, hgd⟩ : ∃ g, s 6 = rowS g (m + 1) ∧ RowB W1.heap.size g (rowS g (m + 1)) (m + 1) (falses (m + 1)) X := hS 6 (by omega)
            obtain ⟨gl, h7, hgl⟩ : ∃ g, s 7 = rowS g (m + 1) ∧ RowG W1.heap.size g (rowS g (m + 1)) (m + 1) (List.replicate (m + 1) farI) X := hS 7 (by omega)
            refine wp_val (v := rowS gd (m + 1)) (X' := X) (by simp [execOp, go_sem, h6]) ⟨rfl, gl, gd, s 0, s 1, s 2, s 3, s 4, s 5, s 6, by simp [Act.put, h7], hgl, hgd, hb⟩
          case post9 =>
            rintro e a Z ⟨rfl, gl, gd, x0, x1, x2, x3, x4, x5, x6, rfl, hl, hd, hZ⟩
            have hT : SvT gu gv go gw gl gd := by
              have q1 := (hI1.u.lt (by omega)).2
              have q2 := (hI1.v.lt (by omega)).2
              have q3 := (hI1.o.lt (by omega)).2
              have q4 := (hI1.r.lt (by omega)).2
              have q5 := (hl.lt (by omega)).1
              have q6 := (hd.lt (by omega)).1
              exact ⟨hS, by omega, by omega, by omega, by omega, by omega, by omega, by omega, by omega, rowG_rowB hl hd (by omega) (by omega)⟩
            have hP : SvP w n m gu gv go gw gl gd us vs (os.set 0 ((j : Int) + 1)) ws (List.replicate (m + 1) farI) (falses (m + 1)) Z := ⟨hI1.below hZ, hl.low hI1.bl.size, RowB.low hd hI1.bl.size⟩
            have ho1 : 0 < os.length := by rw [show os.length = m + 1 by have := hI1.o.1; simpa using this]; omega
            have hpos : (∀ k, 0 ≤ nth (os.set 0 ((j : Int) + 1)) k) ∧ ∀ k, 0 ≤ nth ws k := ⟨fun k => by
              rw [nth_set ho1]
              split
              · omega
              · exact hoz.out.1 k, hoz.out.2⟩
            have hPh : Ph m (c1 css) 1000000000 farI (nth vs 0) (j + 1) (nth us) (nth vs) (fun k => (nth (os.set 0 ((j : Int) + 1)) k).toNat) (fun k => (nth ws k).toNat) (nth (List.replicate (m + 1) farI)) (nthb (falses (m + 1))) [] 0 :=
              Ph.start hO.out (by omega) (by omega) (by rw [nth_set ho1, if_pos rfl]; omega) (fun k k1 => by rw [nth_set ho1, if_neg (by omega)]) (nthb_falses _) (fun k k1 k2 => by simp [nth, show k < m + 1 by omega]) (by decide)
            clear hl hd hI1 hO hoz hent hrep hmb ho1 hd1
            replace hpos := Lib.hid hpos
            replace hPh := Lib.hid hPh
            generalize nth vs 0 = v00 at hPh
            go_wp2_with fail
            go_loopg [10] (m + 1) (fun k s wr => ∃ (ord : List Nat) (a : Nat) (us vs os ws les : List Int) (ds : List Bool), s = .int .i64 (a : Int) ∧ k = m + 1 - ord.length ∧ SvP w n m gu gv go gw gl gd us vs os ws les ds wr ∧ Hid (Ph m (c1 css) 1000000000 farI v00 (j + 1) (nth us) (nth vs) (fun k => (nth os k).toNat) (fun k => (nth ws k).toNat) (nth les) (nthb ds) ord a) ∧ Hid ((∀ k, 0 ≤ nth os k) ∧ ∀ k, 0 ≤ nth ws k))
            case atStart => exact ⟨[], 0, _, _, _, _, _, _, rfl, by simp, hP, hPh, hpos⟩
            case round =>
              clear hP hPh hpos
              obtain ⟨ord, a, us, vs, os, ws, les, ds, rfl, hgk, hP, hPh, hpos⟩ := hrel
              have ham := hPh.out.am
              have hoc := hP.i.o.cell (i := a) (by omega)
              by_cases ho : nth os a = 0
              · have hnz : (nth os a != 0) = false := by simp [ho]
                have ha0 : (nth os a).toNat = 0 := by omega
                have hAu := (hPh.out.exit ha0).1
                replace hAu := Lib.hid hAu
                replace ha0 := Lib.hid ha0
                go_wp2_with fail
                clear hoc hnz ho
                go_loopg [10] ord.length (fun k s wr => ∃ (q : Nat) (rest : List Nat) (os2 : List Int), s = .int .i64 (q : Int) ∧ k = rest.length ∧ SvP w n m gu gv go gw gl gd us vs os2 ws les ds wr ∧ Hid (Au m (c1 css) (j + 1) (nth us) (nth vs) (fun k => (nth os k).toNat) (fun k => (nth ws k).toNat) (fun k => (nth os2 k).toNat) q rest) ∧ Hid (∀ k, 0 ≤ nth os2 k))
                case atStart => exact ⟨a, ord, os, rfl, rfl, hP, hAu, Lib.hid hpos.out.1⟩
                case round =>
                  clear hP hAu
                  obtain ⟨q, rest, os2, rfl, hgr, hP, hAu, hp2⟩ := hrel
                  replace hgr := Lib.hid hgr
                  have hqm := hAu.out.qm
                  by_cases hq : q = 0
                  · have hqz : ((q : Int) != 0) = false := by simp [hq]
                    have hOut := Lib.hid (Au.out (hq ▸ hAu.out) hPh.out ha0.out)
                    clear hq
                    go_wp2_with fail
                    go_roundw
                    case rel => exact ⟨j + 1, us, vs, os2, ws, by go_num, by omega, hP.i, hOut, Lib.hid ⟨hp2.out, hpos.out.2⟩⟩
                    case measure => simp [intOf]; omega
                  · have hqz : ((q : Int) != 0) = true := by simp; omega
                    obtain ⟨x, hx⟩ : ∃ x : Nat, nth ws q = (x : Int) := ⟨(nth ws q).toNat, by have := hpos.out.2 q; omega⟩
                    have hxw : (nth ws q).toNat = x := by omega
                    have hxr : x ∈ rest := by rw [← hxw]; exact hAu.out.wq hq
                    have hxm : x ≤ m := (hAu.out.same x hxr).2.1
                    have hlo : q < os2.length := by rw [show os2.length = m + 1 by have := hP.i.o.1; simpa using this]; omega
                    have hst := hAu.out.step hq (o2 := fun k => (nth (os2.set q (nth os2 x)) k).toNat) (fun k _ => by
                      rw [nth_set hlo]
                      by_cases e : k = q
                      · rw [if_pos e, if_pos e, hxw]
                      · rw [if_neg e, if_neg e])
                    obtain ⟨l2, hl2, hA2⟩ := hst
                    have hA3 : Au m (c1 css) (j + 1) (nth us) (nth vs) (fun k => (nth os k).toNat) (fun k => (nth ws k).toNat) (fun k => (nth (os2.set q (nth os2 x)) k).toNat) x l2 := by
                      have := hA2
                      rw [← hxw] at this ⊢
                      exact this
                    replace hl2 := Lib.hid hl2
                    replace hA3 := Lib.hid hA3
                    have hp3 : ∀ k, 0 ≤ nth (os2.set q (nth os2 x)) k := fun k => by
                      rw [nth_set hlo]
                      split
                      · exact hp2.out x
                      · exact hp2.out k
                    replace hp3 := Lib.hid hp3
                    clear hA2 hlo hq hxw hxr
                    have hwc := hP.i.r.cell (i := q) (by omega)
                    rw [hx] at hwc
                    have hoc := hP.i.o.cell (i := x) (by omega)
                    have hqc := hP.i.o.cell (i := q) (by omega)
                    have hqf := hP.i.o.frozen (by omega) q
                    have hP4 := hP.setO hT q (nth os2 x)
                    have hwc4 := hP4.i.r.cell (i := q) (by omega)
                    rw [hx] at hwc4
                    replace hx := Lib.hid hx
                    go_wp2_with fail
                    go_roundg l2.length
                    case measure =>
                      have h1 := hgr.out
                      have h2 := hl2.out
                      omega
                    case rel => exact ⟨x, l2, _, rfl, rfl, hP4, hA3, hp3⟩
              · have hnz : (nth os a != 0) = true := by simp [ho]
                have hdc := hP.d.cell (i := a) (by omega)
                have hdf := hP.d.frozen (by omega) a
                obtain ⟨r, hr⟩ : ∃ r : Nat, nth os a = (r : Int) + 1 := ⟨(nth os a).toNat - 1, by have := hpos.out.1 a; omega⟩
                have hrj : r < n := by
                  have h1 := hPh.out.oi ham
                  have h2 := hpos.out.1 a
                  omega
                have hP1 := hP.setD hT a true
                rw [hr] at hoc hnz
                have hoc1 := hP1.i.o.cell (i := a) (by omega)
                rw [hr] at hoc1
                replace hr := Lib.hid hr
                go_wp2_with fail
                clear hdc hdf hoc hnz hoc1 hP
                generalize wr.setCell ⟨gd, a, none⟩ (.bool true) = Wd at hP1 ⊢
                have hdn : ∀ k, k ≤ m → (nthb (ds.set a true) k = true ↔ k ∈ a :: ord) := fun k hk => by
                  have hl : a < ds.length := by rw [show ds.length = m + 1 by have := hP1.d.1; simpa using this]; omega
                  rw [nthb_set hl, List.mem_cons]
                  by_cases hka : k = a
                  · simp [hka]
                  · rw [if_neg hka, hPh.out.dn k hk]; simp [hka]
                generalize hds : ds.set a true = ds1 at hP1 hdn
                replace hdn := Lib.hid hdn
                replace hds := Lib.hid hds
                replace hgk := Lib.hid hgk
                clear ho
                go_loopg [14, 15, 16] m (fun k d x q wr => ∃ (K xn : Nat) (dI : Int) (ws' les' : List Int), q = .int .i64 (K : Int) ∧ d = .int .i64 dI ∧ x = .int .i64 (xn : Int) ∧ k = m + 1 - K ∧ 1 ≤ K ∧ K ≤ m + 1 ∧ SvP w n m gu gv go gw gl gd us vs os ws' les' ds1 wr ∧ Hid (Sc m (c1 css) farI (nth us) (nth vs) (fun k => (nth ws k).toNat) (nth les) (a :: ord) a (r + 1) K (fun k => (nth ws' k).toNat) (nth les') dI xn) ∧ Hid (∀ k, 0 ≤ nth ws' k))
                case atStart => exact ⟨1, 0, farI, _, _, rfl, rfl, rfl, by omega, by omega, by omega, hP1, Lib.hid Sc.start, Lib.hid hpos.out.2⟩
                case round =>
                  clear hP1
                  obtain ⟨K, xn, dI, ws', les', rfl, rfl, rfl, rfl, hK1, hK2, hP2, hSc, hwp⟩ := hrel
                  by_cases hKm : K ≤ m
                  · have hle : decide ((K : Int) ≤ (m : Int)) = true := decide_eq_true (by omega)
                    have hdc := hP2.d.cell (i := K) (by omega)
                    by_cases hdk : nthb ds1 K = true
                    · rw [hdk] at hdc
                      have hsk := Lib.hid (hSc.out.skip ((hdn.out K hKm).1 hdk))
                      go_wp2_with fail
                      go_roundg (m + 1 - (K + 1))
                      case measure => omega
                      case rel => exact ⟨K + 1, xn, dI, ws', les', by go_num, rfl, rfl, rfl, by omega, by omega, hP2, hsk, hwp⟩
                    · have hnm' : K ∉ a :: ord := fun e => hdk ((hdn.out K hKm).2 e)
                      replace hnm' := Lib.hid hnm'
                      rw [Bool.not_eq_true] at hdk
                      rw [hdk] at hdc
                      have hoa : (nth os a).toNat = r + 1 := by rw [hr.out]; omega
                      have hcu := hPh.out.cur (by rw [hoa]; omega) hK1 hKm
                      have hub := hPh.out.ub (r := r + 1) (by omega) (by rw [← hoa]; exact hPh.out.oi ham)
                      have hc0 := hcb0.out (r + 1) K
                      rw [hoa] at hcu
                      replace hoa := Lib.hid hoa
                      have hXm : ∃ b off cap b2 o2 c2, (Value.slice av n cv) = .slice (some ⟨b, off, none⟩) n cap ∧ wr.cell? ⟨b, off + r, none⟩ = some (.slice (some ⟨b2, o2, none⟩) m c2) ∧ wr.cell? ⟨b2, o2 + (K - 1), none⟩ = some (.int .i64 (c1 css (r + 1) K)) := by
                        obtain ⟨b, off, cap, he, _, hc⟩ := (hv0.out.mono hP2.i.bl).atN hne.out hrj
                        obtain ⟨x, hx1, hx2⟩ := hc r hrj
                        obtain ⟨b2, o2, c2, rfl, hc2⟩ := hx2.atN (hrl.out r hrj) (k := K - 1) (by omega)
                        exact ⟨b, off, cap, b2, o2, c2, he, hx1, hc2 (K - 1) (by omega)⟩
                      obtain ⟨b, off, cap, b2, o2, c2, he, hx1, hx2⟩ := hXm
                      cases he
                      have hx3 := hP2.i.u.cell (i := r + 1) (by omega)
                      have hx4 := hP2.i.v.cell (i := K) (by omega)
                      have er : IntKind.i64.wrap ((r : Int) + 1 - 1) = (r : Int) := by rw [show (r : Int) + 1 - 1 = r by omega]; exact IntWalk.i64_in _ (by omega)
                      have eK : IntKind.i64.wrap ((K : Int) - 1) = ((K - 1 : Nat) : Int) := by rw [IntWalk.i64_in _ (by omega)]; omega
                      have e1 : IntKind.i64.wrap (c1 css (r + 1) K - nth us (r + 1)) = c1 css (r + 1) K - nth us (r + 1) := IntWalk.i64_in _ (by omega)
                      have e2 : IntKind.i64.wrap (c1 css (r + 1) K - nth us (r + 1) - nth vs K) = c1 css (r + 1) K - nth us (r + 1) - nth vs K := IntWalk.i64_in _ (by omega)
                      clear hcu hub hc0
                      go_wp2_with fail
                      go_quiet (fail)
                      generalize hcr : c1 css (r + 1) K - nth us (r + 1) - nth vs K = cur
                      replace hcr := Lib.hid hcr
                      have hP3 := hP2.drewN nq
                      generalize wr.drewN nq = W3 at hP3 ⊢
                      clear hP2 hx1 hx2 hx3 hx4 hdc er eK e1 e2
                      have hll : K < les'.length := by rw [show les'.length = m + 1 by have := hP3.l.1; simpa using this]; omega
                      have hwl : K < ws'.length := by rw [show ws'.length = m + 1 by have := hP3.i.r.1; simpa using this]; omega
                      have hlc := hP3.l.cell (i := K) (by omega)
                      by_cases hlt : cur < nth les' K
                      · have hlb : decide (cur < nth les' K) = true := decide_eq_true hlt
                        have hlf := hP3.l.frozen (by omega) K
                        have hP4 := hP3.setL hT K cur
                        have hrc := hP4.i.r.cell (i := K) (by omega)
                        have hrf := hP4.i.r.frozen (by omega) K
                        have hP5 := hP4.setR hT K (a : Int)
                        have hl5 := hP5.l.cell (i := K) (by omega)
                        rw [nth_set hll, if_pos rfl] at hl5
                        have hst := Lib.hid (hSc.out.lower hK1 hKm hnm'.out hwl hll hcr.out hlt)
                        have hwp' := Lib.hid (pos_set hwl a hwp.out)
                        clear hlt
                        by_cases hdl : cur < dI
                        · have hdb : decide (cur < dI) = true := decide_eq_true hdl
                          rw [if_pos hdl, if_pos hdl] at hst
                          clear hdl
                          go_wp2_with fail
                          go_roundg (m + 1 - (K + 1))
                          case measure => omega
                          case rel => exact ⟨K + 1, K, cur, _, _, by go_num, rfl, rfl, rfl, by omega, by omega, hP5, hst, hwp'⟩
                        · have hdb : decide (cur < dI) = false := decide_eq_false hdl
                          rw [if_neg hdl, if_neg hdl] at hst
                          clear hdl
                          go_wp2_with fail
                          go_roundg (m + 1 - (K + 1))
                          case measure => omega
                          case rel => exact ⟨K + 1, xn, dI, _, _, by go_num, rfl, rfl, rfl, by omega, by omega, hP5, hst, hwp'⟩
                      · have hlb : decide (cur < nth les' K) = false := decide_eq_false hlt
                        have hst := Lib.hid (hSc.out.stay hK1 hKm hnm'.out hcr.out hlt)
                        clear hlt
                        by_cases hdl : nth les' K < dI
                        · have hdb : decide (nth les' K < dI) = true := decide_eq_true hdl
                          rw [if_pos hdl, if_pos hdl] at hst
                          clear hdl
                          go_wp2_with fail
                          go_roundg (m + 1 - (K + 1))
                          case measure => omega
                          case rel => exact ⟨K + 1, K, nth les' K, _, _, by go_num, rfl, rfl, rfl, by omega, by omega, hP3, hst, hwp⟩
                        · have hdb : decide (nth les' K < dI) = false := decide_eq_false hdl
                          rw [if_neg hdl, if_neg hdl] at hst
                          clear hdl
                          go_wp2_with fail
                          go_roundg (m + 1 - (K + 1))
                          case measure => omega
                          case rel => exact ⟨K + 1, xn, dI, _, _, by go_num, rfl, rfl, rfl, by omega, by omega, hP3, hst, hwp⟩
                  · have hle : decide ((K : Int) ≤ (m : Int)) = false := decide_eq_false (by omega)
                    obtain rfl : K = m + 1 := by omega
                    have hoa : (nth os a).toNat = r + 1 := by rw [hr.out]; omega
                    have hSa : Sc m (c1 css) farI (nth us) (nth vs) (fun k => (nth ws k).toNat) (nth les) (a :: ord) a ((nth os a).toNat) (m + 1) (fun k => (nth ws' k).toNat) (nth les') dI xn := by rw [hoa]; exact hSc.out
                    have ha0 : (nth os a).toNat ≠ 0 := by omega
                    obtain ⟨d1, d2, d3, d4, d5, d6, d7⟩ := hPh.out.dx ha0 hSa
                    replace hSa := Lib.hid hSa
                    replace d4 := Lib.hid d4
                    replace d7 := Lib.hid d7
                    replace d3 := Lib.hid d3
                    replace hoa := Lib.hid hoa
                    clear hSc
                    go_wp2_with fail
                    go_loopg [120] (m + 1) (fun k s wr => ∃ (q : Nat) (us2 vs2 les2 : List Int), s = .int .i64 (q : Int) ∧ k = m + 1 - q ∧ q ≤ m + 1 ∧ SvP w n m gu gv go gw gl gd us2 vs2 os ws' les2 ds1 wr ∧ Hid (Up m (fun k => (nth os k).toNat) (nthb ds1) dI (nth us) (nth vs) (nth les') q (nth us2) (nth vs2) (nth les2)))
                    case atStart => exact ⟨0, _, _, _, rfl, by omega, by omega, hP2, Lib.hid Up.start⟩
                    case round =>
                      clear hP2
                      obtain ⟨q, us2, vs2, les2, rfl, rfl, hq1, hP3, hUp⟩ := hrel
                      by_cases hqm : q ≤ m
                      · have hqb : decide ((q : Int) < (m : Int) + 1) = true := decide_eq_true (by omega)
                        have hdc := hP3.d.cell (i := q) (by omega)
                        by_cases hdq : nthb ds1 q = true
                        · rw [hdq] at hdc
                          obtain ⟨rq, hrq⟩ : ∃ rq : Nat, nth os q = (rq : Int) := ⟨(nth os q).toNat, by have := hpos.out.1 q; omega⟩
                          have hoq : (nth os q).toNat = rq := by omega
                          have hri : rq ≤ j + 1 := by rw [← hoq]; exact hPh.out.oi hqm
                          have hr0 : (nth os q).toNat ≠ 0 := by
                            rcases List.mem_cons.1 ((hdn.out q hqm).1 hdq) with e | e
                            · rw [e]; exact ha0
                            · exact (hPh.out.om q e).2
                          have hinj : ∀ k, k ≤ m → nthb ds1 k = true → (nth os k).toNat = (nth os q).toNat → k = q := fun k k2 k3 e => hPh.out.onj k2 hqm e (by intro e2; exact hr0 (e.symm.trans e2))
                          have hU0 : nth us2 rq = nth us rq := by rw [← hoq]; exact hUp.out.atU hinj
                          have hV0 := hUp.out.atV hqm
                          have hub := hPh.out.ub (r := rq) (by omega) hri
                          have hvb : -61000000000 ≤ nth vs q ∧ nth vs q ≤ 61000000000 := by
                            rcases Nat.eq_zero_or_pos q with e | e
                            · rw [e]
                              have := hPh.out.v0b (by omega) (by omega)
                              omega
                            · have := hPh.out.vb e hqm
                              omega
                          have hlu : rq < us2.length := by rw [show us2.length = n + 1 by have := hP3.i.u.1; simpa using this]; omega
                          have hlv : q < vs2.length := by rw [show vs2.length = m + 1 by have := hP3.i.v.1; simpa using this]; omega
                          have hst : Up m (fun k => (nth os k).toNat) (nthb ds1) dI (nth us) (nth vs) (nth les') (q + 1) (nth (us2.set rq (nth us rq + dI))) (nth (vs2.set q (nth vs q - dI))) (nth les2) := by
                            subst hoq
                            exact hUp.out.done hqm hdq hinj hlu hlv
                          replace hst := Lib.hid hst
                          have e1 : IntKind.i64.wrap (nth us rq + dI) = nth us rq + dI := IntWalk.i64_in _ (by omega)
                          have e2 : IntKind.i64.wrap (nth vs q - dI) = nth vs q - dI := IntWalk.i64_in _ (by omega)
                          clear hinj hub hvb hr0 hdq hlu hlv hoq
                          have hoc := hP3.i.o.cell (i := q) (by omega)
                          rw [hrq] at hoc
                          replace hrq := Lib.hid hrq
                          have huc := hP3.i.u.cell (i := rq) (by omega)
                          rw [hU0] at huc
                          have huf := hP3.i.u.frozen (by omega) rq
                          have hP4 := hP3.setU hT rq (nth us rq + dI)
                          have hvc := hP4.i.v.cell (i := q) (by omega)
                          rw [hV0] at hvc
                          have hvf := hP4.i.v.frozen (by omega) q
                          have hP5 := hP4.setV hT q (nth vs q - dI)
                          clear hU0 hV0
                          go_wp2_with fail
                          go_roundg (m + 1 - (q + 1))
                          case measure => omega
                          case rel => exact ⟨q + 1, _, _, _, by go_num, rfl, by omega, hP5, hst⟩
                        · have hqA : q ∉ a :: ord := fun e => hdq ((hdn.out q hqm).2 e)
                          rw [Bool.not_eq_true] at hdq
                          rw [hdq] at hdc
                          have hL0 := hUp.out.atL hqm
                          have hq0 : 1 ≤ q := by
                            rcases Nat.eq_zero_or_pos q with e | e
                            · exfalso
                              apply hqA
                              rw [e]
                              by_cases he : ord = []
                              · rw [(hPh.out.emp he).1]; simp
                              · exact List.mem_cons_of_mem _ (hPh.out.non he)
                            · exact e
                          have hlb := hPh.out.lec2 ha0 hSa.out hq0 hqm hqA
                          have hll : q < les2.length := by rw [show les2.length = m + 1 by have := hP3.l.1; simpa using this]; omega
                          have hst := Lib.hid (hUp.out.not hdq hll)
                          have e1 : IntKind.i64.wrap (nth les' q - dI) = nth les' q - dI := IntWalk.i64_in _ (by omega)
                          clear hlb hdq hqA hll
                          have hlc := hP3.l.cell (i := q) (by omega)
                          rw [hL0] at hlc
                          have hlf := hP3.l.frozen (by omega) q
                          have hP4 := hP3.setL hT q (nth les' q - dI)
                          clear hL0
                          go_wp2_with fail
                          go_roundg (m + 1 - (q + 1))
                          case measure => omega
                          case rel => exact ⟨q + 1, _, _, _, by go_num, rfl, by omega, hP4, hst⟩
                      · have hqb : decide ((q : Int) < (m : Int) + 1) = false := decide_eq_false (by omega)
                        obtain rfl : q = m + 1 := by omega
                        have hnx := hPh.out.next ha0 hSa.out hdn.out hUp.out
                        have hlen := nodup_len (m + 1) (a :: ord) hnx.nd (fun k hk => by have := (hnx.om k hk).1; omega)
                        replace hlen := Lib.hid hlen
                        replace hnx := Lib.hid hnx
                        go_wp2_with fail
                        go_roundg (m + 1 - (a :: ord).length)
                        case measure =>
                          have h1 := hgk.out
                          have h2 := hlen.out
                          simp at h2 ⊢
                          omega
                        case rel => exact ⟨a :: ord, xn, _, _, _, _, _, _, rfl, rfl, hP3, hnx, Lib.hid ⟨hpos.out.1, hwp.out⟩⟩
        · have hd1 : decide ((j : Int) + 1 ≤ (n : Int)) = false := decide_eq_false (by omega)
          obtain rfl : j = n := by omega
          clear hjn
          go_wp2_with fail
          have hmk : ∀ X : World, (Instr.makeSlice 24 (.int .i64 (j : Int)) (.int .i64 (j : Int))).run Try.prog X = .ok (rowS X.heap.size j) (X.alloc (.cells (madeCells #[.int .i64 0] j) 3)) := run_make24 j (by omega)
          refine Code.wp_mono (Q := Reg34 j m gu gv wr (fun gc gp => #[.slice av j cv, undef, .pointer (some ⟨w.heap.size, 0, none⟩), .int .i64 (j : Int), .int .i64 (m : Int), rowS gu (j + 1), rowS gv (m + 1), rowS go (m + 1), rowS gw (m + 1), .int .i64 ((j : Int) + 1), u10, u11, u12, u13, u14, u15, u16, u17, u18, .pointer (some ⟨gp, 0, none⟩), undef, undef, .slice av j cv, .int .i64 (j : Int), .slice av j cv, .int .i64 (m : Int), .int .i64 (j : Int), .int .i64 ((j : Int) + 1), rowS gu (j + 1), .int .i64 (m : Int), .int .i64 ((m : Int) + 1), rowS gv (m + 1), .int .i64 (m : Int), .int .i64 ((m : Int) + 1), rowS go (m + 1), .int .i64 (m : Int), .int .i64 ((m : Int) + 1), rowS gw (m + 1), .int .i64 ((j : Int) + 1), .int .i64 (j : Int), .bool false, u41, u42, u43, u44, u45, u46, u47, u48, u49, u50, u51, u52, u53, u54, u55, u56, u57, u58, u59, u60, u61, u62, u63, u64, u65, u66, u67, u68, u69, u70, u71, u72, u73, u74, u75, u76, u77, u78, u79, u80, u81, u82, u83, u84, u85, u86, u87, u88, u89, u90, u91, u92, u93, u94, u95, u96, u97, u98, u99, u100, u101, u102, u103, u104, u105, u106, u107, u108, u109, u110, u111, u112, u113, u114, u115, u116, u117, u118, u119, u120, u121, u122, u123, u124, u125, u126, u127, u128, u129, u130, u131, u132, u133, u134, u135, u136, u137, u138, u139, u140, u141, u142, u143, u144, u145, u146, u147, u148, u149, u150, u151, u152, u153, u154, u155, u156, u157, u158, u159, u160, u161, u162, u163, u164, u165, u166, u167, u168, .int .i64 (j : Int), rowS gc j, rowS gu (j + 1), cut1 gu j, rowS gv (m + 1), cut1 gv m, .agg #[rowS gc j, .int .i64 0, cut1 gu j, cut1 gv m], undef, undef, undef, undef, undef, undef, undef, undef, undef, undef, undef, undef, undef, undef, undef, undef, undef, undef, undef, undef, undef, undef, undef, undef, undef, undef, undef, undef, undef, undef, undef, undef])) ?post34 ?reg34
          case reg34 =>
            have k1 := reg34_a (n := j) (m := m) (gu := gu) (gv := gv) (by omega) wr
            have k2 := reg34_b (n := j) (m := m) (gu := gu) (gv := gv) (by omega) wr
            replace k1 := Lib.hid k1
            replace k2 := Lib.hid k2
            go_region
            · exact ⟨rfl, wr.heap.size, wr.heap.size + 1, rfl, k1.out.1, k1.out.2.1, by omega, Nat.le_refl _, by omega, k1.out.2.2⟩
            · exact ⟨rfl, wr.heap.size + 1, wr.heap.size, rfl, k2.out.1, k2.out.2.1, by omega, by omega, Nat.le_refl _, k2.out.2.2⟩
          case post34 =>
            rintro e a Z ⟨rfl, gc, gp, rfl, hc, hp, hcp, hlc, hlp, hZ⟩
            have hF0 : SvF w j m gu gv go gw gc gp us vs os ws (zeros j) 0 Z := ⟨hI.below hZ, hc.low hI.bl.size, hp⟩
            have hG : SvG wr.heap.size w.heap.size gu gv go gw gc gp := ⟨hI.b2.lt, (hI.u.lt (by omega)).2, (hI.v.lt (by omega)).2, (hI.o.lt (by omega)).2, (hI.r.lt (by omega)).2, hlc, hlp, hcp⟩
            have hFn : Fin' (fun k => (nth os k).toNat) (fun r k => nth (nths css r) k) 0 (nth (zeros j)) 0 := Fin'.start
            replace hFn := Lib.hid hFn
            have hcz : ∀ r k, -1000000000 ≤ nth (nths css r) k ∧ nth (nths css r) k ≤ 1000000000 := fun r k => hcb0.out (r + 1) (k + 1)
            replace hcz := Lib.hid hcz
            generalize wr.heap.size = B at hG
            clear hc hp hI hmk hd1 hlc hlp hcp hZ
            go_wp2_with fail
            go_loopg [20] m (fun k s wr => ∃ (K : Nat) (cs : List Int) (tot : Int), s = .int .i64 ((K : Int) + 1) ∧ k = m - K ∧ K ≤ m ∧ SvF w j m gu gv go gw gc gp us vs os ws cs tot wr ∧ Hid (Fin' (fun k => (nth os k).toNat) (fun r k => nth (nths css r) k) K (nth cs) tot))
            case atStart => exact ⟨0, _, _, by simp, by omega, by omega, hF0, hFn⟩
            case round =>
              clear hF0 hFn
              obtain ⟨K, cs, tot, rfl, rfl, hKm, hF, hFn⟩ := hrel
              have hbd := hFn.out.bd hcz.out
              by_cases hkm : K < m
              · have hkb : decide ((K : Int) + 1 ≤ (m : Int)) = true := decide_eq_true (by omega)
                have hoc := hF.i.o.cell (i := K + 1) (by omega)
                by_cases h0 : nth os (K + 1) = 0
                · rw [h0] at hoc
                  have hst := Lib.hid (hFn.out.skip (by show (nth os (K + 1)).toNat = 0; rw [h0]; rfl))
                  clear h0
                  go_wp2_with fail
                  go_roundg (m - (K + 1))
                  case measure => omega
                  case rel => exact ⟨K + 1, cs, tot, by go_num, rfl, by omega, hF, hst⟩
                · obtain ⟨r, hr⟩ : ∃ r : Nat, nth os (K + 1) = (r : Int) + 1 := ⟨(nth os (K + 1)).toNat - 1, by have := hoz.out.1 (K + 1); omega⟩
                  have hol : (nth os (K + 1)).toNat ≤ j := hO.out.ol (K + 1) (by omega) (by omega)
                  have hrj : r < j := by omega
                  have hinj : ∀ q, q < K → (nth os (q + 1)).toNat ≠ r + 1 := fun q hq e => by
                    have := hO.out.inj (q + 1) (K + 1) (by omega) (by omega) (by omega) (by omega) (by show (nth os (q + 1)).toNat = (nth os (K + 1)).toNat; omega) (by show (nth os (q + 1)).toNat ≠ 0; omega)
                    omega
                  have hlc : r < cs.length := by rw [show cs.length = j by have := hF.c.1; simpa using this]; omega
                  have hst := hFn.out.put (show (nth os (K + 1)).toNat = r + 1 by omega) hinj hlc
                  replace hst := Lib.hid hst
                  rw [hr] at hoc
                  have hrb : decide ((0 : Int) < (r : Int) + 1) = true := decide_eq_true (by omega)
                  clear hr h0 hol hinj hlc
                  have er : IntKind.i64.wrap (r : Int) = (r : Int) := IntWalk.i64_in _ (by omega)
                  have eK : IntKind.i64.wrap (K : Int) = (K : Int) := IntWalk.i64_in _ (by omega)
                  have hcr := hcz.out r K
                  have et : IntKind.i64.wrap (tot + nth (nths css r) K) = tot + nth (nths css r) K := IntWalk.i64_in _ (by omega)
                  have hp0 := hF.p.cell 0 rfl
                  have hgc := hF.c.cell (i := r) hrj
                  have hgf := hF.c.frozen (by omega) r
                  have hF4 := hF.setC hG r (K : Int)
                  have hp1 := hF4.p.cell 1 rfl
                  have hXm : ∃ b off cap b2 o2 c2, (Value.slice av j cv) = .slice (some ⟨b, off, none⟩) j cap ∧ (wr.setCell ⟨gc, r, none⟩ (.int .i64 (K : Int))).cell? ⟨b, off + r, none⟩ = some (.slice (some ⟨b2, o2, none⟩) m c2) ∧ (wr.setCell ⟨gc, r, none⟩ (.int .i64 (K : Int))).cell? ⟨b2, o2 + K, none⟩ = some (.int .i64 (nth (nths css r) K)) := by
                    obtain ⟨b, off, cap, he, _, hc⟩ := (hv0.out.mono hF4.i.bl).atN hne.out hrj
                    obtain ⟨x, hx1, hx2⟩ := hc r hrj
                    obtain ⟨b2, o2, c2, rfl, hc2⟩ := hx2.atN (hrl.out r hrj) (k := K) (by omega)
                    exact ⟨b, off, cap, b2, o2, c2, he, hx1, hc2 K (by omega)⟩
                  obtain ⟨b, off, cap, b2, o2, c2, he, hx1, hx2⟩ := hXm
                  cases he
                  generalize nth (nths css r) K = z at *
                  go_wp2_with fail
                  generalize wr.setCell ⟨gc, r, none⟩ (.int .i64 (K : Int)) = W4 at hF4 hp1 hx1 hx2 ⊢
                  go_still_tail 13, (by kernel_rfl)
                  have hF5 := hF4.drew
                  change wpList _ _ _ _ _ W4.drew
                  generalize W4.drew = W5 at hF5 ⊢
                  clear hF4 hF hp0 hp1 hgc hgf hx1 hx2 er eK et
                  have hp1 := hF5.p.cell 1 rfl
                  have hp2 := hF5.p.frozen 1
                  have hF6 := hF5.setT hG (tot + z)
                  go_wp2_with fail
                  go_roundg (m - (K + 1))
                  case measure => omega
                  case rel => exact ⟨K + 1, _, _, by go_num, rfl, by omega, hF6, hst⟩
              · have hkb : decide ((K : Int) + 1 ≤ (m : Int)) = false := decide_eq_false (by omega)
                obtain rfl : K = m := by omega
                have hok := solve_ok hO.out hFn.out
                replace hok := Lib.hid hok
                obtain ⟨q1, q2⟩ := hF.result hG hS.uv
                have z0 := hF.p.cell 0 rfl
                have z1 := hF.p.cell 1 rfl
                have z2 := hF.p.cell 2 rfl
                have z3 := hF.p.cell 3 rfl
                have c0 := hF.i.b2.cell 0 rfl
                have c1 := hF.i.b2.cell 1 rfl
                have c2 := hF.i.b2.cell 2 rfl
                have c3 := hF.i.b2.cell 3 rfl
                have y0 := hF.i.b2.frozen 0
                have y1 := hF.i.b2.frozen 1
                have y2 := hF.i.b2.frozen 2
                have y3 := hF.i.b2.frozen 3
                go_wp2
                have e0 := q1.cell 0 rfl
                have e1 := q1.cell 1 rfl
                have e2 := q1.cell 2 rfl
                have e3 := q1.cell 3 rfl
                exact bodyPost_ret (v := resV gc gu gv j K tot) (by simp [results, Try.results34, go_sem, e0, e1, e2, e3, resV]) rfl ⟨gc, gu, gv, tot, cs, us, vs, rfl, q2, Lib.hid ⟨hok.out.1, hok.out.2⟩⟩
end Go.Proofs.Ytoendfpfnfeccaa
