/- The contracts of Start and Step. Conditions: lists of at most 2^62 elements. -/
import Derived.Test.YtfefocgekmeahaaW29
namespace Go.Proofs.Ytfefocgekmeahaa
open Go.RowKit Go.Shelf

/-- a state and an error -/
def StRes (w : World) (d : Int) (s : St) (e : Ending) (w' : World) : Prop := ∃ v1 v2 v3, e = .returned (.tuple #[.agg #[v1, v2, v3], .int .i64 d]) ∧ StSl w' v1 v2 v3 s ∧ Below w.heap.size w w'
def noSt : St := ⟨[], [], []⟩
/-- a state, but behind an error none -/
def stOut (d : Int) (s : St) : St := if d = 0 then s else noSt
theorem stOut_ok (s : St) : stOut 0 s = s := if_pos rfl
theorem stOut_bad {d : Int} (h : d ≠ 0) (s : St) : stOut d s = noSt := if_neg h
theorem noSt_sl (w : World) : StSl w (.slice none 0 0) (.slice none 0 0) (.slice none 0 0) noSt := ⟨.inl ⟨⟨none, 0, rfl⟩, rfl⟩, .inl ⟨⟨none, 0, rfl⟩, rfl⟩, .inl ⟨⟨none, 0, rfl⟩, rfl⟩⟩

/-- a state is put into the result -/
theorem put_state {w X : World} {R : Nat} {v1 v2 v3 : Value} {s : St} {n : Nat} (hR : BoxC X R 44 #[.slice none 0 0, .slice none 0 0, .slice none 0 0]) (hw : w.heap.size ≤ R) (hB : Below w.heap.size w X) (h : StSl X v1 v2 v3 s)
    (hl : s.lv.length = n ∧ s.tk.length = n ∧ s.lk.length = n) (h1 : ∀ b, 0 < n → v1.ownBlock = some b → b ≠ R) (h2 : ∀ b, 0 < n → v2.ownBlock = some b → b ≠ R) (h3 : ∀ b, 0 < n → v3.ownBlock = some b → b ≠ R) :
    let Z := ((X.setCell ⟨R, 0, none⟩ v1).setCell ⟨R, 1, none⟩ v2).setCell ⟨R, 2, none⟩ v3
    BoxC Z R 44 #[v1, v2, v3] ∧ StSl Z v1 v2 v3 s ∧ Below w.heap.size w Z := by
  have hg := grownBy_trans (grownBy_trans (grownBy_setCell X ⟨R, 0, none⟩ v1) (grownBy_setCell _ ⟨R, 1, none⟩ v2)) (grownBy_setCell _ ⟨R, 2, none⟩ v3)
  refine ⟨((hR.set 0 _).set 1 _).set 2 _, ⟨h.lv.kept hg (fun b hb hn e => h1 b (by omega) hb (by cases e; rfl)), h.tk.kept hg (fun b hb hn e => h2 b (by omega) hb (by cases e; rfl)), h.lk.kept hg (fun b hb hn e => h3 b (by omega) hb (by cases e; rfl))⟩, ((hB.setCell (p := ⟨R, 0, none⟩) hw _).setCell (p := ⟨R, 1, none⟩) hw _).setCell (p := ⟨R, 2, none⟩) hw _⟩

set_option maxHeartbeats 4000000 in
theorem Start_any (sup : Int) (v : Value) (ns : List Nd) (w : World) (hv : NdSl w v ns) (hm : ns.length ≤ 9223372036854775807) :
    Calls Try.prog 34 #[plV sup v] w (StRes w (ckF sup ns) (stOut (ckF sup ns) ⟨lvs ns, zeros ns.length, zeros ns.length⟩)) := by
  have hB : Below w.heap.size w ((w.alloc (.cells #[.int .i64 sup, v] 24)).alloc (.cells #[.slice none 0 0, .slice none 0 0, .slice none 0 0] 44)) := ((Below.refl _ w).alloc (Nat.le_refl _) _).alloc (by simp) _
  have bP := (BoxC.new w 24 #[.int .i64 sup, v]).alloc (.cells #[.slice none 0 0, .slice none 0 0, .slice none 0 0] 44)
  have bR := BoxC.new (w.alloc (.cells #[.int .i64 sup, v] 24)) 44 #[.slice none 0 0, .slice none 0 0, .slice none 0 0]
  rw [World.size_alloc] at bR
  have hck := Check_any sup v ns _ (hv.mono hB) hm
  obtain ⟨d, hd⟩ : ∃ d, ckF sup ns = d := ⟨_, rfl⟩
  rw [hd] at hck ⊢
  have hn30 := fun h : d = 0 => (plOk_of (sup := sup) (ns := ns) (hd.trans h)).2.len
  have hst := fun h W (hb : Below w.heap.size w W) => start_any sup v ns W (hv.mono hb) (hn30 h)
  obtain ⟨av, cv, rfl⟩ := hv.len
  clear hv hd
  replace hck := Lib.hid hck
  by_cases h0 : d = 0
  · subst h0
    rw [stOut_ok]
    replace hst := hst rfl
    replace hst := Lib.hid hst
    clear hn30
    go_enter Try.func34, Try.ntmps34
    go_wp2_with fail
    refine hck.out.mono ?_
    rintro e w1 ⟨rfl, hb1⟩
    have bP1 := bP.grown hb1
    have bR1 := bR.grown hb1
    have hB1 := hB.trans (hb1.mono hB.size)
    have c0 := bP1.cell 0 rfl
    have c1 := bP1.cell 1 rfl
    have hs1 := Lib.hid (hst.out w1 hB1)
    have hRl := bR1.lt
    clear hck hst hb1 hB bP bR
    go_wp2_with fail
    refine hs1.out.mono ?_
    rintro e w2 ⟨v1, v2, v3, rfl, n1, n2, n3, o1, o2, o3, hb2⟩
    have bR2 := bR1.grown hb2
    have hB2 := hB1.trans (hb2.mono hB1.size)
    obtain ⟨q1, q2, q3⟩ := put_state (n := ns.length) bR2 (by omega) hB2 ⟨n1, n2, n3⟩ ⟨lvs_len ns, zeros_len _, zeros_len _⟩ (fun b hn hb => by have := o1 b hn hb; omega) (fun b hn hb => by have := o2 b hn hb; omega) (fun b hn hb => by have := o3 b hn hb; omega)
    have z0 := bR2.cell 0 rfl
    have z1 := bR2.cell 1 rfl
    have z2 := bR2.cell 2 rfl
    have y0 := bR2.frozen 0
    have y1 := bR2.frozen 1
    have y2 := bR2.frozen 2
    obtain ⟨a1, p1, rfl⟩ := n1.len
    obtain ⟨a2, p2, rfl⟩ := n2.len
    obtain ⟨a3, p3, rfl⟩ := n3.len
    clear hs1 c0 c1 o1 o2 o3
    go_wp2
    have e0 := q1.cell 0 rfl
    have e1 := q1.cell 1 rfl
    have e2 := q1.cell 2 rfl
    exact bodyPost_ret (v := .tuple #[.agg #[_, _, _], .int .i64 0]) (by simp [results, Try.results34, go_sem, e0, e1, e2]) rfl ⟨_, _, _, rfl, q2, q3⟩
  · obtain ⟨g1, g2⟩ := neq_of h0
    rw [stOut_bad h0]
    clear hst hn30
    go_enter Try.func34, Try.ntmps34
    go_wp2_with fail
    refine hck.out.mono ?_
    rintro e w1 ⟨rfl, hb1⟩
    have bR1 := bR.grown hb1
    have hB1 := hB.trans (hb1.mono hB.size)
    obtain ⟨q1, q2, q3⟩ := put_state (n := 0) bR1 (by omega) hB1 (noSt_sl w1) ⟨rfl, rfl, rfl⟩ (fun b hn => by omega) (fun b hn => by omega) (fun b hn => by omega)
    have z0 := bR1.cell 0 rfl
    have z1 := bR1.cell 1 rfl
    have z2 := bR1.cell 2 rfl
    have y0 := bR1.frozen 0
    have y1 := bR1.frozen 1
    have y2 := bR1.frozen 2
    clear hck
    go_wp2
    have e0 := q1.cell 0 rfl
    have e1 := q1.cell 1 rfl
    have e2 := q1.cell 2 rfl
    exact bodyPost_ret (v := .tuple #[.agg #[.slice none 0 0, .slice none 0 0, .slice none 0 0], .int .i64 d]) (by simp [results, Try.results34, go_sem, e0, e1, e2]) rfl ⟨_, _, _, rfl, q2, q3⟩
end Go.Proofs.Ytfefocgekmeahaa
