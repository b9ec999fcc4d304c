/- The contracts of Best. Conditions: lists that fit into memory. -/
import Derived.Test.YtoendfpfnfeccaaW10
namespace Go.Proofs.Ytoendfpfnfeccaa
open Go.RowKit Go.Shelf

section
variable {w w1 : World} {n m gc gu gv : Nat} {cs us vs : List Int} {X : World}
theorem SolMem.low (h : SolMem w1 n m gc gu gv cs us vs X) (hb : Below w.heap.size w w1) : SolMem w n m gc gu gv cs us vs X :=
  ⟨h.c.low hb.size, h.u.low hb.size, h.v.low hb.size, h.cu, h.cv, h.uv, hb.trans (h.bl.mono hb.size)⟩
theorem SolMem.other (h : SolMem w n m gc gu gv cs us vs X) {p : Addr} (hp : w.heap.size ≤ p.block) (h1 : 0 < n → p.block ≠ gc) (h2 : p.block ≠ gu) (h3 : p.block ≠ gv) (u : Value) : SolMem w n m gc gu gv cs us vs (X.setCell p u) :=
  ⟨h.c.other h1 u, h.u.other (fun _ => h2) u, h.v.other (fun _ => h3) u, h.cu, h.cv, h.uv, h.bl.setCell hp u⟩
theorem SolMem.below {Y : World} (h : SolMem w n m gc gu gv cs us vs X) (hb : Below X.heap.size X Y) : SolMem w n m gc gu gv cs us vs Y :=
  ⟨h.c.grown hb, h.u.grown hb, h.v.grown hb, h.cu, h.cv, h.uv, h.bl.trans (hb.mono h.bl.size)⟩
theorem SolMem.far (h : SolMem w1 n m gc gu gv cs us vs X) {B : Nat} (hB : B < w1.heap.size) : (0 < n → B ≠ gc) ∧ B ≠ gu ∧ B ≠ gv :=
  ⟨fun hn => by have := (h.c.lt hn).1; omega, by have := (h.u.lt (by omega)).1; omega, by have := (h.v.lt (by omega)).1; omega⟩
/-- a result is put into a box that was there before -/
theorem SolMem.put (h : SolMem w1 n m gc gu gv cs us vs X) (hb : Below w.heap.size w w1) {B : Nat} (h1 : w.heap.size ≤ B) (h2 : B < w1.heap.size) (u0 u1 u2 u3 : Value) :
    SolMem w n m gc gu gv cs us vs ((((X.setCell ⟨B, 0, none⟩ u0).setCell ⟨B, 1, none⟩ u1).setCell ⟨B, 2, none⟩ u2).setCell ⟨B, 3, none⟩ u3) := by
  obtain ⟨f1, f2, f3⟩ := h.far h2
  exact ((((h.low hb).other (p := ⟨B, 0, none⟩) h1 f1 f2 f3 u0).other (p := ⟨B, 1, none⟩) h1 f1 f2 f3 u1).other (p := ⟨B, 2, none⟩) h1 f1 f2 f3 u2).other (p := ⟨B, 3, none⟩) h1 f1 f2 f3 u3
theorem SolMem.cs_sl (h : SolMem w n m gc gu gv cs us vs X) : NumSl .i64 X (rowS gc n) cs := h.c.num ⟨_, _, rfl⟩
theorem SolMem.us_sl (h : SolMem w n m gc gu gv cs us vs X) : NumSl .i64 X (cut1 gu n) (us.drop 1) := h.u.tail
theorem SolMem.vs_sl (h : SolMem w n m gc gu gv cs us vs X) : NumSl .i64 X (cut1 gv m) (vs.drop 1) := h.v.tail
end
theorem BoxC.put4 {W : World} {B : Nat} {t : TypeId} {a b c d : Value} (h : BoxC W B t #[a, b, c, d]) (u0 u1 u2 u3 : Value) :
    BoxC ((((W.setCell ⟨B, 0, none⟩ u0).setCell ⟨B, 1, none⟩ u1).setCell ⟨B, 2, none⟩ u2).setCell ⟨B, 3, none⟩ u3) B t #[u0, u1, u2, u3] := (((h.set 0 u0).set 1 u1).set 2 u2).set 3 u3
def zeroR : Value := resB (.slice none 0 0) 0 (.slice none 0 0) (.slice none 0 0)
def ErrPost (d : Int) (w : World) (e : Ending) (w' : World) : Prop := e = .returned (.tuple #[zeroR, .int .i64 d]) ∧ Below w.heap.size w w'
def BestPost (css : List (List Int)) (n m : Nat) (w : World) (e : Ending) (X : World) : Prop :=
  ∃ gc gu gv tot cs us vs, e = .returned (.tuple #[resV gc gu gv n m tot, .int .i64 0]) ∧ SolMem w n m gc gu gv cs us vs X ∧ Hid (SolSays css n m cs us vs tot)

set_option maxHeartbeats 1000000 in
theorem Best_err (v : Value) (css : List (List Int)) (w : World) (hv : SlSl w v css) (hf : CsFit css) (hd : ckF css true ≠ 0) : Calls Try.prog 16 #[v] w (ErrPost (ckF css true) w) := by
  have hB : Below w.heap.size w (w.alloc (.cells #[.slice none 0 0, .int .i64 0, .slice none 0 0, .slice none 0 0] 32)) := (Below.refl _ w).alloc (Nat.le_refl _) _
  have b1 := BoxC.new w 32 #[.slice none 0 0, .int .i64 0, .slice none 0 0, .slice none 0 0]
  have hck := Check_any v css _ (hv.mono hB) hf
  obtain ⟨av, cv, rfl⟩ := hv.len
  generalize ckF css true = d at hck hd ⊢
  have hb : (d != 0) = true := by simp [hd]
  replace hck := Lib.hid hck
  clear hv hf hd
  go_enter Try.func16, Try.ntmps16
  go_wp2_with fail
  refine hck.out.mono ?_
  rintro e w1 ⟨rfl, hb1⟩
  have hB1 := hB.trans (hb1.mono hB.size)
  have b11 := b1.grown hb1
  have z0 := b11.cell 0 rfl
  have z1 := b11.cell 1 rfl
  have z2 := b11.cell 2 rfl
  have z3 := b11.cell 3 rfl
  have y0 := b11.frozen 0
  have y1 := b11.frozen 1
  have y2 := b11.frozen 2
  have y3 := b11.frozen 3
  clear hck hb1 hB
  go_wp2
  have q1 := b11.put4 (.slice none 0 0) (.int .i64 0) (.slice none 0 0) (.slice none 0 0)
  have e0 := q1.cell 0 rfl
  have e1 := q1.cell 1 rfl
  have e2 := q1.cell 2 rfl
  have e3 := q1.cell 3 rfl
  exact bodyPost_ret (v := .tuple #[zeroR, .int .i64 d]) (by simp [results, Try.results16, go_sem, e0, e1, e2, e3, zeroR]) rfl
    ⟨rfl, (((hB1.setCell (p := ⟨w.heap.size, 0, none⟩) (Nat.le_refl _) _).setCell (p := ⟨w.heap.size, 1, none⟩) (Nat.le_refl _) _).setCell (p := ⟨w.heap.size, 2, none⟩) (Nat.le_refl _) _).setCell (p := ⟨w.heap.size, 3, none⟩) (Nat.le_refl _) _⟩
theorem c1_in {css : List (List Int)} (h : CsOk css) : ∀ r k, -1000000000 ≤ c1 css r k ∧ c1 css r k ≤ 1000000000 := fun _ _ => h.val _ _
set_option maxHeartbeats 1000000 in
theorem Best_ok (v : Value) (css : List (List Int)) (w : World) (hv : SlSl w v css) (hf : CsFit css) (hd : ckF css true = 0) : Calls Try.prog 16 #[v] w (BestPost css css.length (colN css) w) := by
  have hok := csOk_of hd
  have hB : Below w.heap.size w (w.alloc (.cells #[.slice none 0 0, .int .i64 0, .slice none 0 0, .slice none 0 0] 32)) := (Below.refl _ w).alloc (Nat.le_refl _) _
  have b1 := BoxC.new w 32 #[.slice none 0 0, .int .i64 0, .slice none 0 0, .slice none 0 0]
  have hck := Check_any v css _ (hv.mono hB) hf
  rw [hd] at hck
  have hsv := fun w' (hb : Below w.heap.size w w') => solve_any v css w' (hv.mono hb) hok.1.n (by have := hok.1.m; omega) (hok.2 rfl) hok.1.row (c1_in hok.1)
  obtain ⟨n, hn⟩ : ∃ n, css.length = n := ⟨_, rfl⟩
  obtain ⟨m, hm⟩ : ∃ m, colN css = m := ⟨_, rfl⟩
  obtain ⟨av, cv, rfl⟩ := hv.lenN hn
  rw [hn, hm] at hsv ⊢
  replace hck := Lib.hid hck
  replace hsv := Lib.hid hsv
  clear hv hf hd hok hn hm
  go_enter Try.func16, Try.ntmps16
  go_wp2_with fail
  refine hck.out.mono ?_
  rintro e w1 ⟨rfl, hb1⟩
  have hB1 := hB.trans (hb1.mono hB.size)
  have b11 := b1.grown hb1
  have hl1 := b11.lt
  clear hck hb1 hB b1
  go_wp2_with fail
  refine (hsv.out _ hB1).mono ?_
  rintro e w2 ⟨gc, gu, gv, tot, cs, us, vs, rfl, hM, hS⟩
  have b12 := b11.grown hM.bl
  have hM2 := hM.put hB1 (B := w.heap.size) (Nat.le_refl _) hl1 (rowS gc n) (.int .i64 tot) (cut1 gu n) (cut1 gv m)
  have z0 := b12.cell 0 rfl
  have z1 := b12.cell 1 rfl
  have z2 := b12.cell 2 rfl
  have z3 := b12.cell 3 rfl
  have y0 := b12.frozen 0
  have y1 := b12.frozen 1
  have y2 := b12.frozen 2
  have y3 := b12.frozen 3
  unfold resV
  go_wp2
  have q1 := b12.put4 (rowS gc n) (.int .i64 tot) (cut1 gu n) (cut1 gv m)
  have e0 := q1.cell 0 rfl
  have e1 := q1.cell 1 rfl
  have e2 := q1.cell 2 rfl
  have e3 := q1.cell 3 rfl
  exact bodyPost_ret (v := .tuple #[resV gc gu gv n m tot, .int .i64 0]) (by simp [results, Try.results16, go_sem, e0, e1, e2, e3, resV]) rfl ⟨gc, gu, gv, tot, cs, us, vs, rfl, hM2, hS⟩
end Go.Proofs.Ytoendfpfnfeccaa
