/- What the loop of step over the nodes keeps. No walk. Conditions: at most 30 nodes. -/
import Derived.Test.YtfefocgekmeahaaWR
namespace Go.Proofs.Ytfefocgekmeahaa
open Go.RowKit Go.Shelf

/-- the world of step's loop over the nodes -/
structure MainI (w : World) (sup : Int) (av au aw a1 : Option Addr) (cv cu cw c1 n B7 Bs D g g1 g2 g3 : Nat) (ws : List Int) (s : St) (X : World) : Prop where
  b3 : BoxC X w.heap.size 24 #[.int .i64 sup, .slice av n cv]
  b4 : BoxC X (w.heap.size + 1) 39 #[.slice au n cu]
  b6 : BoxC X (w.heap.size + 1 + 1) 44 #[.slice none 0 0, .slice none 0 0, .slice none 0 0]
  b7 : BoxC X B7 39 #[.slice aw n cw]
  bs : BoxC X Bs 44 #[.slice a1 n c1, .slice (some ⟨g2, 0, none⟩) n n, .slice (some ⟨g3, 0, none⟩) n n]
  rw : RowG w.heap.size g (.slice aw n cw) n ws X
  r1 : RowG w.heap.size g1 (.slice a1 n c1) n s.lv X
  r2 : RowG w.heap.size g2 (.slice (some ⟨g2, 0, none⟩) n n) n s.tk X
  r3 : RowG w.heap.size g3 (.slice (some ⟨g3, 0, none⟩) n n) n s.lk X
  d : X.heap[D]? = some (.deferred (some []))
  bl : Below w.heap.size w X
/-- the rows and boxes are apart -/
structure MainS (w : World) (n B7 Bs D g g1 g2 g3 : Nat) : Prop where
  hg : w.heap.size ≤ g
  hg1 : w.heap.size ≤ g1
  hg2 : w.heap.size + 3 ≤ g2
  g01 : 0 < n → g ≠ g1
  g02 : 0 < n → g ≠ g2
  g03 : 0 < n → g ≠ g3
  g12 : 0 < n → g1 ≠ g2
  g13 : 0 < n → g1 ≠ g3
  g23 : g2 ≠ g3
  b7 : B7 ≠ g2
  bs : Bs ≠ g2
  d : D ≠ g2
section
variable {w : World} {sup : Int} {av au aw a1 : Option Addr} {cv cu cw c1 n B7 Bs D g g1 g2 g3 : Nat} {ws : List Int} {s : St} {X X' : World}
theorem MainI.drew (h : MainI w sup av au aw a1 cv cu cw c1 n B7 Bs D g g1 g2 g3 ws s X) : MainI w sup av au aw a1 cv cu cw c1 n B7 Bs D g g1 g2 g3 ws s X.drew :=
  ⟨h.b3, h.b4, h.b6, h.b7, h.bs, h.rw, h.r1, h.r2, h.r3, h.d, h.bl.drew⟩
theorem MainI.drewN (h : MainI w sup av au aw a1 cv cu cw c1 n B7 Bs D g g1 g2 g3 ws s X) (q : Nat) : MainI w sup av au aw a1 cv cu cw c1 n B7 Bs D g g1 g2 g3 ws s (X.drewN q) :=
  ⟨h.b3, h.b4, h.b6, h.b7, h.bs, h.rw, h.r1, h.r2, h.r3, h.d, below_drewN h.bl q⟩
theorem d_ne {base q : Nat} {v : Value} {xs : List Int} (hr : RowG base q v n xs X) (hd : X.heap[D]? = some (.deferred (some []))) (hn : 0 < n) : D ≠ q := by
  intro e
  obtain ⟨o, h1, h2⟩ := hr.cells hn
  rw [← e, hd] at h1
  cases h1
  cases h2
theorem MainI.set1 (S : MainS w n B7 Bs D g g1 g2 g3) (h : MainI w sup av au aw a1 cv cu cw c1 n B7 Bs D g g1 g2 g3 ws s X) {i : Nat} (hi : i < n) (z : Int) :
    MainI w sup av au aw a1 cv cu cw c1 n B7 Bs D g g1 g2 g3 ws ⟨s.lv.set i z, s.tk, s.lk⟩ (X.setCell ⟨g1, i, none⟩ (.int .i64 z)) := by
  have hn : 0 < n := by omega
  exact ⟨h.b3.other (h.r1.ne_box h.b3 (by decide) hn) _, h.b4.other (h.r1.ne_box h.b4 (by decide) hn) _, h.b6.other (h.r1.ne_box h.b6 (by decide) hn) _, h.b7.other (h.r1.ne_box h.b7 (by decide) hn) _, h.bs.other (h.r1.ne_box h.bs (by decide) hn) _,
    h.rw.other (fun hn => (S.g01 hn).symm) _, h.r1.set i z, h.r2.other (fun hn => S.g12 hn) _, h.r3.other (fun hn => S.g13 hn) _, (Below.heap_setCell X _ _ D (d_ne h.r1 h.d hn)).trans h.d, h.bl.setCell S.hg1 _⟩
theorem MainI.set3 (S : MainS w n B7 Bs D g g1 g2 g3) (h : MainI w sup av au aw a1 cv cu cw c1 n B7 Bs D g g1 g2 g3 ws s X) {i : Nat} (hi : i < n) (z : Int) :
    MainI w sup av au aw a1 cv cu cw c1 n B7 Bs D g g1 g2 g3 ws ⟨s.lv, s.tk, s.lk.set i z⟩ (X.setCell ⟨g3, i, none⟩ (.int .i64 z)) := by
  have hn : 0 < n := by omega
  exact ⟨h.b3.other (h.r3.ne_box h.b3 (by decide) hn) _, h.b4.other (h.r3.ne_box h.b4 (by decide) hn) _, h.b6.other (h.r3.ne_box h.b6 (by decide) hn) _, h.b7.other (h.r3.ne_box h.b7 (by decide) hn) _, h.bs.other (h.r3.ne_box h.bs (by decide) hn) _,
    h.rw.other (fun hn => (S.g03 hn).symm) _, h.r1.other (fun hn => (S.g13 hn).symm) _, h.r2.other (fun _ => S.g23.symm) _, h.r3.set i z, (Below.heap_setCell X _ _ D (d_ne h.r3 h.d hn)).trans h.d, h.bl.setCell (h.r3.lt hn).1 _⟩
theorem MainI.give (S : MainS w n B7 Bs D g g1 g2 g3) (h : MainI w sup av au aw a1 cv cu cw c1 n B7 Bs D g g1 g2 g3 ws s X) (hg : X.grownBy X' (some g2)) {tk : List Int}
    (hr : RowG w.heap.size g2 (.slice (some ⟨g2, 0, none⟩) n n) n tk X') : MainI w sup av au aw a1 cv cu cw c1 n B7 Bs D g g1 g2 g3 ws ⟨s.lv, tk, s.lk⟩ X' := by
  have := S.hg2
  have h7 := S.b7
  have hs := S.bs
  have hd := S.d
  exact ⟨h.b3.kept hg (by simp; omega), h.b4.kept hg (by simp; omega), h.b6.kept hg (by simp; omega), h.b7.kept hg (by simpa using h7), h.bs.kept hg (by simpa using hs),
    h.rw.kept hg (fun hn e => S.g02 hn (by cases e; rfl)), h.r1.kept hg (fun hn e => S.g12 hn (by cases e; rfl)), hr, h.r3.kept hg (fun _ e => S.g23 (by cases e; rfl)), (hg.block D (heap_lt h.d) (by simpa using hd)).trans h.d,
    h.bl.grown hg h.bl.size (fun k e => by cases e; omega)⟩
end
def stNext (ns : List Nd) (lv dm ws : List Int) (s : St) (i : Nat) : St :=
  ⟨s.lv.set i (gv ns ws i (s.tk, nth lv i + nth s.tk i - min (nth dm i) (nth lv i + nth s.tk i)) ns.length).2, (gv ns ws i (s.tk, nth lv i + nth s.tk i - min (nth dm i) (nth lv i + nth s.tk i)) ns.length).1,
    s.lk.set i (nth dm i - min (nth dm i) (nth lv i + nth s.tk i))⟩
theorem stT_next (ns : List Nd) (sup : Int) (lv dm ws : List Int) (i : Nat) : stT ns sup lv dm ws (i + 1) = stNext ns lv dm ws (stT ns sup lv dm ws i) i := rfl
theorem stT_tk_bd {ns : List Nd} {sup : Int} {lv dm : List Int} (hp : PlOk ns) (hl : LvOk ns lv) (hd : DmOk ns dm) (hs : 0 ≤ sup) {i : Nat} (hi : i ≤ ns.length) (j : Nat) :
    0 ≤ nth (stT ns sup lv dm (wF ns lv dm) i).tk j ∧ nth (stT ns sup lv dm (wF ns lv dm) i).tk j ≤ 1000000000 := by
  have h := stInv (sup := sup) hp hl hs (fun k => (wF_bd hp hl hd k).1) (fun k => (hd.all k).1) i hi
  have hw := wF_bd hp hl hd j
  rcases Nat.lt_or_ge j ns.length with hj | hj
  · by_cases hc : (nd ns j).p < i
    · rw [h.tk j hj hc]; omega
    · rw [h.tz j hj hc]; omega
  · rw [nth_over (by rw [(stT_len hl.len i).2.1]; exact hj)]; omega
end Go.Proofs.Ytfefocgekmeahaa
