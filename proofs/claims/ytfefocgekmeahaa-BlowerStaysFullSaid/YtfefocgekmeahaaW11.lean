/- The contract of the iterator over the states behind the steps, told. Conditions: a right plant and right demands. -/
import Derived.Test.YtfefocgekmeahaaW10
namespace Go.Proofs.Ytfefocgekmeahaa
open Go.RowKit Go.Shelf
attribute [local go_sem] Oper.semAt_some

/-- what lay as cells in w lies so in X -/
def Old (w X : World) : Prop := ∀ (k : Nat) (o : Obj), w.heap[k]? = some o → o.isCells = true → X.heap[k]? = some o
theorem Old.cell {w X : World} (h : Old w X) {p : Addr} {v : Value} (hc : w.cell? p = some v) : X.cell? p = some v := by
  obtain ⟨o, ho, hcell⟩ := cells_of_cell hc
  exact (World.cell?_of_block ((h _ o ho hcell).trans ho.symm)).trans hc
theorem Old.of_below {w X : World} (h : Below w.heap.size w X) : Old w X := fun k _ ho _ => (h.block k (heap_lt ho)).trans ho
theorem Old.keeps {w X Y : World} {m : Nat → Prop} {B : Option Nat} (h : Old w X) (hk : Keeps m B X Y) (hn : ∀ k, k < w.heap.size → ¬ fpB m B X k) : Old w Y := fun k o ho hc => hk.same k o (hn k (heap_lt ho)) (h k o ho hc) hc
theorem Old.trans {w X Y : World} (h : Old w X) (hb : Below X.heap.size X Y) : Old w Y := fun k o ho hc => (hb.block k (heap_lt (h k o ho hc))).trans (h k o ho hc)
theorem NumSl.old {K : IntKind} {w X : World} {v : Value} {xs : List Int} (h : NumSl K w v xs) (hO : Old w X) : NumSl K X v xs := by
  rcases h with h | ⟨b, off, cap, rfl, hc⟩
  · exact .inl h
  · exact .inr ⟨b, off, cap, rfl, fun i hi => hO.cell (hc i hi)⟩
theorem NdSl.old {w X : World} {v : Value} {ns : List Nd} (h : NdSl w v ns) (hO : Old w X) : NdSl X v ns := by
  rcases h with h | ⟨b, off, cap, rfl, hc⟩
  · exact .inl h
  · exact .inr ⟨b, off, cap, rfl, fun i hi => ⟨hO.cell (hc i hi).1, hO.cell (hc i hi).2.1, hO.cell (hc i hi).2.2.1, hO.cell (hc i hi).2.2.2⟩⟩
theorem SlSl.old {w X : World} {v : Value} {xss : List (List Int)} (h : SlSl w v xss) (hO : Old w X) : SlSl X v xss := by
  rcases h with h | ⟨b, off, cap, rfl, hl, hc⟩
  · exact .inl h
  · refine (Nat.eq_zero_or_pos xss.length).elim (fun h0 => .inl ⟨⟨_, cap, by rw [h0]⟩, List.eq_nil_of_length_eq_zero h0⟩) (fun h0 => ?_)
    refine .inr ⟨b, off, cap, rfl, ?_, fun i hi => ?_⟩
    · obtain ⟨u, h1, _⟩ := hc 0 h0
      exact lt_of_cell (hO.cell h1)
    · obtain ⟨u, h1, h2⟩ := hc i hi
      exact ⟨u, hO.cell h1, h2.old hO⟩
theorem Keeps.setNew {m : Nat → Prop} {B : Option Nat} {W X : World} (h : Keeps m B W X) {p : Addr} (hp : W.heap.size ≤ p.block) (hB : ∀ b, B = some b → b < W.heap.size) (u : Value) : Keeps m B W (X.setCell p u) := by
  refine ⟨Nat.le_trans h.size (KeepsWalks.setCell X p u).size, fun k o hn hk hc => ?_, fun k hk => ?_⟩
  · have := heap_lt hk
    exact (Below.heap_setCell X p u k (by omega)).trans (h.same k o hn hk hc)
  · have h1 := h.foot k ((fpB_same (fun b hb => World.cell?_of_block (a := ⟨b, 0, none⟩) (Below.heap_setCell X p u b (by have := hB b hb; omega))) k).1 hk)
    have := (KeepsWalks.setCell X p u).size
    rcases h1 with h1 | h1
    · exact .inl h1
    · exact .inr ⟨h1.1, by omega⟩
theorem fpB_set {m : Nat → Prop} {B : Option Nat} {X : World} {p : Addr} (hB : ∀ b, B = some b → b ≠ p.block) (u : Value) (k : Nat) : fpB m B (X.setCell p u) k ↔ fpB m B X k :=
  fpB_same (fun b hb => World.cell?_of_block (a := ⟨b, 0, none⟩) (Below.heap_setCell X p u b (hB b hb))) k

set_option maxRecDepth 100000 in
set_option maxHeartbeats 4000000 in
theorem states_told (n : Nat) (hn : 1 ≤ n) (m : Nat → Prop) (B : Option Nat) (sup : Int) (v u : Value) (ns : List Nd) (dss : List (List Int)) (hp : PlOk ns) (hs0 : 0 ≤ sup) (hs1 : sup ≤ 1000000000) (hd : DssOk ns dss) (hdl : dss.length ≤ 1000)
    (w0 w : World) (Bp Bd : Nat) (hP : BoxC w Bp 24 #[.int .i64 sup, v]) (hD : BoxC w Bd 25 #[u]) (hv : NdSl w0 v ns) (hu : SlSl w0 u dss) (hO : Old w0 w) (hB : ∀ b, B = some b → b < w.heap.size)
    (hfp : ∀ k, fpB m B w k → w0.heap.size ≤ k ∧ k ≠ Bp ∧ k ≠ Bd ∧ k < w.heap.size) :
    SeqTold Fence.wide n Try.prog 50 #[.pointer (some ⟨Bp, 0, none⟩),   .pointer (some ⟨Bd, 0, none⟩)] (ydE ns.length) (ydCn ns sup dss m B) (Keeps m B) (fun ys => ys.length = dss.length) (fun _ => True) dss.length w := by
  intro j J Jx W hW hJ hJx hY h0
  have hWs := hW.size
  have hBW : ∀ b, B = some b → b < W.heap.size := fun b hb => Nat.lt_of_lt_of_le (hB b hb) hWs
  have hfpW : ∀ k, fpB m B W k → w0.heap.size ≤ k ∧ k ≠ Bp ∧ k ≠ Bd ∧ k < W.heap.size := fun k hk => by
    have := hfp k ((fpB_same (fun b hb => hW.cell (p := ⟨b, 0, none⟩) (hB b hb)) k).1 hk)
    omega
  have hPW := hP.grown hW
  have hDW := hD.grown hW
  have hOW := hO.trans hW
  have hPl := hP.lt
  have hDl := hD.lt
  obtain ⟨av, cv, rfl⟩ := hv.len
  obtain ⟨au, cu, rfl⟩ := hu.len
  have hn30 := hp.len
  clear hP hD hO hfp
  have hst := Lib.hid (start_any sup _ ns W (hv.old hOW) hp.len)
  refine callsIn_of_wp Try.func50 rfl trivial ?_ rfl
  simp only [Try.ntmps50, List.size_toArray, List.length_cons, List.length_nil, Nat.reduceAdd, Nat.reduceSub, Array.replicate_succ, Array.replicate_zero, List.push_toArray, List.append_toArray, List.nil_append, List.cons_append]
  have c0 := hPW.cell 0 rfl
  have c1 := hPW.cell 1 rfl
  have f0 := hPW.frozen 0
  gi_wp2_with fail
  refine ⟨trivial, ?_⟩
  refine (callsIn_wide.2 hst.out).mono ?_
  rintro e w1 ⟨v1, v2, v3, rfl, k1, k2, k3, f1, f2, f3, hb1⟩
  obtain ⟨a1, q1, rfl⟩ := k1.len
  obtain ⟨a2, q2, rfl⟩ := k2.len
  obtain ⟨a3, q3, rfl⟩ := k3.len
  have hb2 := (Below.refl w1.heap.size w1).alloc (Nat.le_refl _) (.cells #[.slice a1 (lvs ns).length q1, .slice a2 (zeros ns.length).length q2, .slice a3 (zeros ns.length).length q3] 44)
  have bQ := BoxC.new w1 44 #[.slice a1 (lvs ns).length q1, .slice a2 (zeros ns.length).length q2, .slice a3 (zeros ns.length).length q3]
  have hb3 := hb1.trans (hb2.mono hb1.size)
  have hQ : W.heap.size ≤ w1.heap.size := hb1.size
  have hd1 := hDW.grown hb3
  obtain ⟨Q, hQe⟩ : ∃ Q, w1.heap.size = Q := ⟨_, rfl⟩
  have hQq : W.heap.size ≤ Q := by omega
  have hQ1 : Q = w1.heap.size := hQe.symm
  have cd := hd1.cell 0 rfl
  have hkk := k1.mono hb2
  have hJ0 := abides_below (hJ Q hQq).1 (h0 Q hQq) hb3
  have hKb := Keeps.grown (m := m) (B := B) hb3 hBW
  have hz1 : (w1.alloc (.cells #[.slice a1 (lvs ns).length q1, .slice a2 (zeros ns.length).length q2, .slice a3 (zeros ns.length).length q3] 44)).heap.size = w1.heap.size + 1 := by simp
  have hlt1 : ∀ b, 0 < ns.length → (Value.slice a1 (lvs ns).length q1).ownBlock = some b → b < w1.heap.size := fun b hn' hb => by
    obtain ⟨b', z1, z2⟩ := k1.own (by rw [lvs_len]; exact hn')
    rw [hb] at z1
    cases z1
    exact z2
  replace hQe := Lib.hid hQe
  clear hQ1
  gi_wp2
  generalize (w1.alloc (.cells #[.slice a1 (lvs ns).length q1, .slice a2 (zeros ns.length).length q2, .slice a3 (zeros ns.length).length q3] 44)) = W1 at hb2 bQ hb3 hd1 cd hkk hJ0 hKb hz1 ⊢
  have hS0 : BoxC W1 Q 44 #[.slice a1 (lvs ns).length q1, .slice a2 (zeros ns.length).length q2, .slice a3 (zeros ns.length).length q3] := by rw [← hQe.out]; exact bQ
  rw [hQe.out] at hz1 hQ hlt1 ⊢
  have hfp1 : ∀ k, fpB m B W1 k ↔ fpB m B W k := fpB_same (fun b hb => hb3.cell (p := ⟨b, 0, none⟩) (hBW b hb))
  have hAp0 : Apart m B Q ns.length (.slice a1 (lvs ns).length q1) W1 := fun b hn' hb => by
    have z1 := f1 b hn' hb
    have z2 := hlt1 b hn' hb
    exact ⟨fun hf => by have := (hfpW b ((hfp1 b).1 hf)).2.2.2; omega, by omega, by omega⟩
  clear bQ k1 k2 k3 f1 f2 f3 hQe cd hst c0 c1 f0
  have hS1 : ∃ a b c : Value, BoxC W1 Q 44 #[a, b, c] ∧ NumSl .i64 W1 a (runT ns sup dss 0).lv ∧ Apart m B Q ns.length a W1 := ⟨_, _, _, hS0, hkk, hAp0⟩
  have hJs : ∃ pre : List Yd, pre.length = 0 ∧ J Q pre W1 := ⟨[], rfl, hJ0⟩
  have hfs : ∀ i, fpB m B W1 i → i < W1.heap.size ∧ i ≠ Q := fun i hi => by have := (hfpW i ((hfp1 i).1 hi)).2.2.2; omega
  clear hS0 hkk hAp0 hlt1 hfp1 hb2 hb3 hd1 hz1 hb1 hJ0
  gi_loopw [11] (fun q wr => ∃ k : Nat, k ≤ dss.length ∧ q = .int .i64 k ∧ (∃ pre : List Yd, pre.length = k ∧ J Q pre wr) ∧ Keeps m B W wr ∧ (∀ i, fpB m B wr i → i < wr.heap.size ∧ i ≠ Q) ∧
      ∃ a b c : Value, BoxC wr Q 44 #[a, b, c] ∧ NumSl .i64 wr a (runT ns sup dss k).lv ∧ Apart m B Q ns.length a wr) (fun q _ => dss.length - (intOf q).toNat)
  case atStart => exact ⟨0, Nat.zero_le _, rfl, hJs, hKb, hfs, hS1⟩
  case round =>
    clear hJs hKb hfs hS1
    obtain ⟨k, hk, rfl, ⟨pre, hpre, hJr⟩, hK, hfs, a, b, c, bQ, hla, hAp⟩ := hrel
    have hold : ∀ i, i < w0.heap.size → ¬ fpB m B W i := fun i hi hf => by have := (hfpW i hf).1; omega
    have hOr := hOW.keeps hK hold
    by_cases hlt : k < dss.length
    · have hPr := hPW.keeps hK (fun hf => (hfpW _ hf).2.1 rfl)
      have hDr := hDW.keeps hK (fun hf => (hfpW _ hf).2.2.1 rfl)
      have hvr := hv.old hOr
      obtain ⟨bu, ou, cpu, heu, _, hcu⟩ := (hu.old hOr).at hlt
      cases heu
      obtain ⟨dd, cdd, hdd⟩ := hcu k hlt
      obtain ⟨ad, cd, rfl⟩ := hdd.len
      have hki : (k : Int) < (dss.length : Int) := by omega
      have hlv := runT_lv (sup := sup) hp hs0 hd k hk
      obtain ⟨aa, ca, rfl⟩ := hla.len
      have hst := Lib.hid (step_any sup _ ns _ _ _ _ wr hvr hla hdd hp hlv (hd k hlt) hs0 hs1)
      have c0 := hPr.cell 0 rfl
      have c1 := hPr.cell 1 rfl
      have z0 := bQ.cell 0 rfl
      have hBr : ∀ b, B = some b → b < wr.heap.size := fun b hb => Nat.lt_of_lt_of_le (hBW b hb) hK.size
      have hBQ : ∀ b, B = some b → b ≠ Q := fun b hb => by have := hBW b hb; omega
      have hQr := bQ.lt
      clear hcu hvr hdd hla
      gi_wp2_with fail
      refine ⟨trivial, ?_⟩
      refine (callsIn_wide.2 hst.out).mono ?_
      rintro e w2 ⟨v1, v2, v3, rfl, k1, k2, k3, f1, f2, f3, hb2⟩
      obtain ⟨a1, q1, rfl⟩ := k1.len
      obtain ⟨a2, q2, rfl⟩ := k2.len
      obtain ⟨a3, q3, rfl⟩ := k3.len
      clear c0 c1 z0 hst
      have bQ2 := bQ.grown hb2
      have y0 := bQ2.cell 0 rfl
      have y1 := bQ2.cell 1 rfl
      have y2 := bQ2.cell 2 rfl
      have g0 := bQ2.frozen 0
      have g1 := bQ2.frozen 1
      have g2 := bQ2.frozen 2
      have hn' : (stepF ns sup (runT ns sup dss k).lv (nths dss k)) = runT ns sup dss (k + 1) := rfl
      rw [hn'] at k1 k2 k3 f1 f2 f3 ⊢
      have hlen := stT_len (sup := sup) (dm := nths dss k) (ws := wF ns (runT ns sup dss k).lv (nths dss k)) hlv.len ns.length
      have hl1 : (runT ns sup dss (k + 1)).lv.length = ns.length := hlen.1
      have hl2 : (runT ns sup dss (k + 1)).tk.length = ns.length := hlen.2.1
      have hl3 : (runT ns sup dss (k + 1)).lk.length = ns.length := hlen.2.2
      clear hlen hn'
      generalize hrun : runT ns sup dss (k + 1) = S at k1 k2 k3 f1 f2 f3 hl1 hl2 hl3 ⊢
      rw [hl1] at k1 f1 ⊢
      rw [hl2] at k2 f2 ⊢
      rw [hl3] at k3 f3 ⊢
      replace hl1 := Lib.hid hl1
      replace hl2 := Lib.hid hl2
      replace hl3 := Lib.hid hl3
      have hJ2 := abides_below (hJ Q hQq).1 hJr hb2
      have hJ3 := (hJ Q hQq).2 _ _ 2 (.slice a3 ns.length q3) ((hJ Q hQq).2 _ _ 1 (.slice a2 ns.length q2) ((hJ Q hQq).2 _ _ 0 (.slice a1 ns.length q1) hJ2))
      have hgr := grownBy_trans (grownBy_trans (grownBy_setCell w2 ⟨Q, 0, none⟩ (.slice a1 ns.length q1)) (grownBy_setCell _ ⟨Q, 1, none⟩ (.slice a2 ns.length q2))) (grownBy_setCell _ ⟨Q, 2, none⟩ (.slice a3 ns.length q3))
      have bQ3 : BoxC (((w2.setCell ⟨Q, 0, none⟩ (.slice a1 ns.length q1)).setCell ⟨Q, 1, none⟩ (.slice a2 ns.length q2)).setCell ⟨Q, 2, none⟩ (.slice a3 ns.length q3)) Q 44 #[.slice a1 ns.length q1, .slice a2 ns.length q2, .slice a3 ns.length q3] := ((bQ2.set 0 _).set 1 _).set 2 _
      have hK3 := ((((hK.trans (Keeps.grown (m := m) (B := B) hb2 hBr)).setNew (p := ⟨Q, 0, none⟩) hQ hBW (.slice a1 ns.length q1)).setNew (p := ⟨Q, 1, none⟩) hQ hBW (.slice a2 ns.length q2)).setNew (p := ⟨Q, 2, none⟩) hQ hBW (.slice a3 ns.length q3))
      have hf3 : ∀ i, fpB m B (((w2.setCell ⟨Q, 0, none⟩ (.slice a1 ns.length q1)).setCell ⟨Q, 1, none⟩ (.slice a2 ns.length q2)).setCell ⟨Q, 2, none⟩ (.slice a3 ns.length q3)) i ↔ fpB m B wr i := fun i =>
        (fpB_set hBQ _ i).trans ((fpB_set hBQ _ i).trans ((fpB_set hBQ _ i).trans (fpB_same (fun b hb => hb2.cell (p := ⟨b, 0, none⟩) (hBr b hb)) i)))
      have hw2s := hb2.size
      have ap : ∀ (vv : Value) (xs : List Int), NumSl .i64 w2 vv xs → xs.length = ns.length → (∀ b, 0 < ns.length → vv.ownBlock = some b → wr.heap.size ≤ b) →
          NumSl .i64 (((w2.setCell ⟨Q, 0, none⟩ (.slice a1 ns.length q1)).setCell ⟨Q, 1, none⟩ (.slice a2 ns.length q2)).setCell ⟨Q, 2, none⟩ (.slice a3 ns.length q3)) vv xs ∧
          Apart m B Q ns.length vv (((w2.setCell ⟨Q, 0, none⟩ (.slice a1 ns.length q1)).setCell ⟨Q, 1, none⟩ (.slice a2 ns.length q2)).setCell ⟨Q, 2, none⟩ (.slice a3 ns.length q3)) := fun vv xs h1 h2 h3 => by
        refine ⟨h1.kept hgr (fun b hb h0 e => ?_), fun b hb0 hb => ?_⟩
        · have := h3 b (by omega) hb
          have e2 : Q = b := by cases e; rfl
          omega
        · have z1 := h3 b hb0 hb
          obtain ⟨b', z2, z3⟩ := h1.own (by omega)
          rw [hb] at z2
          cases z2
          have := hgr.size
          exact ⟨fun hf => by have := (hfs b ((hf3 b).1 hf)).1; omega, by omega, by omega⟩
      obtain ⟨t1, p1⟩ := ap _ _ k1 hl1.out f1
      obtain ⟨t2, p2⟩ := ap _ _ k2 hl2.out f2
      obtain ⟨t3, p3⟩ := ap _ _ k3 hl3.out f3
      have hsz3 := hgr.size
      replace hrun := Lib.hid hrun
      gi_wp2_with fail
      generalize (((w2.setCell ⟨Q, 0, none⟩ (.slice a1 ns.length q1)).setCell ⟨Q, 1, none⟩ (.slice a2 ns.length q2)).setCell ⟨Q, 2, none⟩ (.slice a3 ns.length q3)) = W3 at hJ3 bQ3 hK3 hf3 t1 t2 t3 p1 p2 p3 hsz3 ⊢
      obtain ⟨fn, tmps, assign, body, hy, hR⟩ := hY Q hQq pre ⟨k, a1, q1, a2, q2, a3, q3⟩ _ hJ3 ⟨bQ3.lt, hpre.symm, by rw [hrun.out]; exact ⟨t1, t2, t3⟩, p1, p2, p3⟩ (by omega)
      rw [hy]
      clear y0 y1 y2 g0 g1 g2 bQ2 bQ hb2 hJ2 hJr hgr ap k1 k2 k3 f1 f2 f3
      gi_wp2
      refine hR.mono ?_
      rintro e W5 (⟨rfl, hJ5, hk5⟩ | ⟨rfl, hJx5⟩)
      · have hnQ : ¬ fpB m B W3 Q := fun hf => (hfs Q ((hf3 Q).1 hf)).2 rfl
        have hQ3 := bQ3.lt
        have bQ5 := bQ3.keeps hk5 hnQ
        have hK5 := hK3.trans hk5
        have t5 := t1.keeps hk5 (fun b hb h0 => (p1 b (by have := hl1.out; omega) hb).1)
        have hs5 := hk5.size
        have hfs5 : ∀ i, fpB m B W5 i → i < W5.heap.size ∧ i ≠ Q := fun i hi => by
          rcases hk5.foot i hi with h1 | h1
          · have := hfs i ((hf3 i).1 h1); omega
          · omega
        have p5 : Apart m B Q ns.length (.slice a1 ns.length q1) W5 := fun b hb0 hb => by
          obtain ⟨z1, z2, z3⟩ := p1 b hb0 hb
          refine ⟨fun hf => ?_, by omega, z3⟩
          rcases hk5.foot b hf with h1 | h1
          · exact z1 h1
          · omega
        rw [← hrun.out] at t5
        clear hy hR hJ3 bQ3 hK3 hf3 t1 t2 t3 p1 p2 p3 hk5 hfs
        gi_wp2
        go_roundw
        case rel => exact ⟨k + 1, by omega, by go_num, ⟨_, by simp [hpre], hJ5⟩, hK5, hfs5, _, _, _, bQ5, t5, p5⟩
        case measure => simp [intOf]; omega
      · gi_wp2
        refine bodyPost_ret (results_none rfl _ _ _) rfl ?_
        exact ⟨⟨_, rfl⟩, Q, hQ, .inr ⟨_, trivial, hJx5⟩⟩
    · obtain rfl : k = dss.length := by omega
      gi_wp2
      go_end0
      exact ⟨⟨_, rfl⟩, Q, hQ, .inl ⟨pre, hpre, hJr⟩⟩
end Go.Proofs.Ytfefocgekmeahaa
