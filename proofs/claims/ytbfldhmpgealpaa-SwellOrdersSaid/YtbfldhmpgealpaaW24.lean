/- The contract of Order. Conditions: lists of a machine's length; at most 19 registrations. -/
import Derived.Test.YtbfldhmpgealpaaW23
namespace Go.Proofs.Ytbfldhmpgealpaa
open Go Go.RowKit Go.Shelf

theorem oinfo3 : (Try.prog.info? 3).map (fun i => (i.zero, i.size, i.bytes)) = some (some (.int .i64 0), 1, 8) := by kernel_rfl

def mkO (u lv : Value) (i : Nat) (v : Value) : Option Nat := if i = 3 ∨ i = 10 then (if v.ownBlock = rowOf u lv i then none else v.ownBlock) else none
theorem row_in {W : World} {base : Nat} {e : TypeId} {size : Nat} {v : Value} {k : Nat} {xs : List Value} (h : W.ownsRow base e size v k xs) : ∀ b, v.ownBlock = some b → base ≤ b ∧ b < W.heap.size := by
  intro b hb
  rcases h.2 with ⟨rfl, _⟩ | ⟨g, cap, cur, rfl, h2, h3, _⟩
  · cases hb
  · cases hb
    exact ⟨h2, heap_lt h3⟩

theorem mk_new {u lv : Value} {i gb n cp b N M : Nat} (hi : i = 3 ∨ i = 10) (h : mkO u lv i (.slice (some ⟨gb, 0, none⟩) n cp) = some b) (hat : rowOf u lv i = some gb ∨ gb = N) (hlt : gb < M) : N ≤ b ∧ b < M := by
  unfold mkO at h
  rw [if_pos hi] at h
  split at h
  · cases h
  · rename_i h1
    have h2 : gb = b := by simpa [Value.ownBlock] using h
    subst h2
    rcases hat with h5 | h5
    · exact absurd h5.symm h1
    · exact ⟨by omega, hlt⟩
theorem one_in {X : World} {b : Nat} {z : Value} (h : X.cell? ⟨b, 0, none⟩ = some z) : ∀ j u, [z][j]? = some u → X.cell? ((⟨b, 0, none⟩ : Addr).add j) = some u := by
  intro j u hu
  rw [WideShapes.add_plain]
  match j with
  | 0 =>
    simp at hu
    subst hu
    exact h
  | j + 1 => simp at hu

theorem ord_dis {u lv : Value} {x1 wr w2 b3 b10 n c3 c10 : Nat} (hfr : ∀ b, u.ownBlock = some b → x1 ≤ b ∧ b < wr) (hfl : ∀ b, lv.ownBlock = some b → x1 ≤ b ∧ b < wr) (hw : wr ≤ w2) (hne : ∀ b, u.ownBlock = some b → lv.ownBlock ≠ some b)
    (h3 : u.ownBlock = some b3 ∨ w2 ≤ b3) (h10 : lv.ownBlock = some b10 ∨ w2 ≤ b10) (hmk : mkO u lv 3 (.slice (some ⟨b3, 0, none⟩) n c3) = some b3 → ¬ mkO u lv 10 (.slice (some ⟨b10, 0, none⟩) n c10) = some b3) : b3 ≠ b10 := by
  rintro rfl
  rcases h3 with h3 | h3
  · rcases h10 with h10 | h10
    · exact hne _ h3 h10
    · have := hfr _ h3; omega
  · rcases h10 with h10 | h10
    · have := hfl _ h10; omega
    · refine hmk ?_ ?_
      · unfold mkO
        rw [if_pos (.inl rfl), if_neg (fun e => ?_)]
        · rfl
        · have := hfr b3 (Eq.symm e); omega
      · unfold mkO
        rw [if_pos (.inr rfl), if_neg (fun e => ?_)]
        · rfl
        · have := hfl b3 (Eq.symm e); omega

def OrderPost (T : Tab) (ls : List Rg) (w : World) (e : Ending) (w' : World) : Prop :=
  Below w.heap.size w w' ∧ ((ordF T ls ≠ 0 ∧ e = .returned (.tuple #[.slice none 0 0, .int .i64 (ordF T ls)])) ∨
    (ordF T ls = 0 ∧ ∃ v ys, e = .returned (.tuple #[v, .int .i64 0]) ∧ NumSl .i64 w' v ys ∧ OutSt (fun z => keyF T ls z.toNat) ys ls.length ls.length))

set_option maxRecDepth 100000 in
set_option maxHeartbeats 4000000 in
theorem order_any (v u x : Value) (T : Tab) (ls : List Rg) (w : World) (hv : SlSl w v T.s) (hu : SlSl w u T.b) (hT : T.Fit) (hx : RgSl w x ls) (hl : ls.length ≤ 19) (hr : ∀ k, (rgAt ls k).s.length ≤ 100) :
    Calls Try.prog 30 #[tabV v u, x] w (OrderPost T ls w) := by

  have hB := (Below.refl w.heap.size w).alloc (Nat.le_refl _) (.cells #[v, u] 35)
  have bP := BoxC.new w 35 #[v, u]
  have hv1 := hv.mono hB
  have hu1 := hu.mono hB
  have hx1 := hx.mono hB
  obtain ⟨a, cap, rfl⟩ := hv.len
  obtain ⟨a2, cap2, rfl⟩ := hu.len
  obtain ⟨a3, cap3, rfl⟩ := hx.len
  have hck := CheckTable_any _ _ T _ hv1 hu1 hT
  replace hck := Lib.hid hck
  obtain ⟨i0, hi, hz0, hz1, hz2⟩ := info_parts oinfo3
  have hF : tabF T ≠ 0 → ordF T ls = tabF T := fun h => by unfold ordF; rw [if_pos h]
  have hF0 : tabF T = 0 → ordF T ls = ordS T ls 0 := fun h => by unfold ordF; rw [if_neg (by simpa using h)]
  by_cases ht : tabF T = 0
  · have hok := tabOk_of ht
    have hF2 := hF0 ht
    have ht2 : (tabF T != 0) = false := by simpa using ht
    clear hF hF0
    have hTb := hT.b
    have hTb8 := hok.eq; have hTn := hok.n
    replace hTb8 : T.b.length ≤ 8 := by omega
    replace hF2 := Lib.hid hF2
    go_enter Try.func30, Try.ntmps30
    go_wp2_with fail
    refine hck.out.mono ?_
    rintro e w1 ⟨rfl, hB1⟩
    rw [ht]
    have hbs := hB.size
    generalize w.alloc (.cells #[.slice a T.s.length cap, .slice a2 T.b.length cap2] 35) = W at hB bP hv1 hu1 hx1 hB1 hbs ⊢
    have hB1s := hB1.size
    have hB2 := hB1.alloc (by omega) (.cells #[.slice none 0 0] 40)
    have bP2 := bP.grown hB2
    have p0 : (w1.alloc (.cells #[.slice none 0 0] 40)).cell? ⟨w.heap.size, 0, none⟩ = some (.slice a T.s.length cap) := bP2.cell 0 rfl
    have p1 : (w1.alloc (.cells #[.slice none 0 0] 40)).cell? ⟨w.heap.size, 1, none⟩ = some (.slice a2 T.b.length cap2) := bP2.cell 1 rfl
    have bL := BoxC.new w1 40 #[.slice none 0 0]
    have hB2s := hB2.size
    have hu2 := hu1.mono hB2
    have hv2 := hv1.mono hB2
    have hx2 := hx1.mono hB2
    have hgt := bP2.lt
    go_wp2_with fail
    generalize hX0 : w1.alloc (.cells #[.slice none 0 0] 40) = X0 at hB2 bP2 p0 p1 bL hB2s hu2 hv2 hx2 hgt ⊢
    have hg : w1.heap.size < X0.heap.size := bL.lt
    have hgne : w1.heap.size ≠ w.heap.size := by have := (bP.grown hB1).lt; omega
    have hgw : w.heap.size ≤ w1.heap.size := by omega
    generalize w1.heap.size = g at bL hg hgne hgw ⊢
    generalize w.heap.size = a0 at bP2 p0 p1 hgt hgne ⊢
    clear hX0
    go_loopw [7, 23] (fun u q X => ∃ k : Nat, k ≤ T.b.length ∧ q = .int .i64 k ∧ X.ownsRow X0.heap.size 3 1 u k ((lastTo T k).map (Value.int .i64)) ∧ Below X0.heap.size X0 X) (fun _ q _ => T.b.length - (intOf q).toNat)
    case atStart => exact ⟨0, Nat.zero_le _, rfl, World.ownsRow_nil _ _ _ _, Below.refl _ _⟩
    case round =>
      obtain ⟨k, hk, rfl, hrow, hY⟩ := hrel
      have hYs := hY.size
      by_cases hlt : k < T.b.length
      · obtain ⟨bv, ov, cpv, hev, hcv⟩ := (hu2.mono hY).at hlt
        cases hev
        obtain ⟨y, cy, hy⟩ := hcv k hlt
        obtain ⟨ay, cpy, rfl⟩ := hy.len
        clear hcv
        have hbk := hT.bs k
        have hki : (k : Int) < (T.b.length : Int) := by omega
        have hrow2 := (hrow.alloc (.cells #[.slice ay (nths T.b k).length cpy] 49)).alloc (.cells #[.int .i64 (((nths T.b k).length : Int) - 1)] 3)
        have hcn := cells_new (wr.alloc (.cells #[.slice ay (nths T.b k).length cpy] 49)) [.int .i64 (((nths T.b k).length : Int) - 1)] 3
        simp only [World.size_alloc] at hcn
        go_wp2_with (at_builtin; refine wpList_append_own _ rfl _ _ 40 rfl X0.heap.size 3 i0 _ 1 8 Try.underlying40 hi hz0 hz1 hz2 rfl (by decide) _ _ _ rfl hrow2 ⟨wr.heap.size + 1, 0, none⟩ 1 1 [.int .i64 (((nths T.b k).length : Int) - 1)] rfl rfl hcn (by simp [Value.oneCell']) (by unfold maxLen; omega) (by omega) (by simp; omega) ?_; intro v' w1' hown' hgrow hnil)
        go_roundw
        case rel =>
          refine ⟨k + 1, by omega, by go_num, ?_, ((hY.alloc (by omega) _).alloc (by simp; omega) _).grown hgrow (by simp; omega) (fun i e => ownsRow_low hrow i e)⟩
          rw [show lastTo T (k + 1) = lastTo T k ++ [((nths T.b k).length : Int) - 1] from rfl, List.map_append]
          exact hown'
        case measure => simp [intOf]; omega
      · obtain rfl : k = T.b.length := by omega
        have hyv := ownsRow_num (by rw [lastTo_len]; exact hrow)
        have hyb : ∀ b, u7.ownBlock = some b → b < wr.heap.size := fun b e => by
          rcases hrow.2 with ⟨h1, _⟩ | ⟨g', cap', cur', h1, h2, h3, _⟩
          · rw [h1] at e; cases e
          · rw [h1] at e; cases e; exact heap_lt h3
        clear hu2 hv2 hx2 hv1 hu1 hx1
        have hB0 : Below w.heap.size w wr := hB.trans ((hB2.trans (hY.mono hB2s)).mono hB.size)
        have bP3 := bP2.grown hY
        have bL3 := bL.grown hY
        have hyg : ∀ b, u7.ownBlock = some b → b ≠ g := fun b e => by have := ownsRow_low hrow b e; omega
        have ha0x : a0 < wr.heap.size := bP3.lt
        have hgx : g < wr.heap.size := bL3.lt
        have hwx : w.heap.size ≤ wr.heap.size := hB0.size
        have hybx := hyb
        clear hrow hY
        obtain ⟨x1, hx1⟩ : ∃ x1 : World, x1 = wr := ⟨_, rfl⟩
        rw [← hx1] at ha0x hgx hwx hybx
        go_wp2_with fail
        go_loopw [8, 37] (fun u q X => ∃ k : Nat, k ≤ ls.length ∧ q = .int .i64 k ∧ Hid (ordS T ls k = ordF T ls) ∧ Below w.heap.size w X ∧ BoxC X a0 35 #[.slice a T.s.length cap, .slice a2 T.b.length cap2] ∧ NumSl .i64 X u7 (lastTo T T.b.length) ∧ x1.heap.size ≤ X.heap.size ∧
          (k = 0 → u = .slice none 0 0) ∧ X.ownsRow x1.heap.size 3 1 u k ((idxTo k).map (Value.int .i64)) ∧ ∃ lv, BoxC X g 40 #[lv] ∧ X.ownsRow x1.heap.size 3 1 lv k ((keysTo T ls k).map (Value.int .i64)) ∧ Hid (∀ b, u.ownBlock = some b → lv.ownBlock ≠ some b)) (fun _ q _ => ls.length - (intOf q).toNat)
        case atStart =>
          subst hx1
          exact ⟨0, Nat.zero_le _, rfl, Lib.hid hF2.out.symm, hB0, bP3, hyv, Nat.le_refl _, fun _ => rfl, World.ownsRow_nil _ _ _ _, _, bL3, World.ownsRow_nil _ _ _ _, Lib.hid (fun b e => by cases e)⟩
        case round =>
          obtain ⟨q, hq, rfl, hFq, hBX, bPX, hyX, hXs, hun, hou, lv, bLX, hol, hne⟩ := hrel
          by_cases hlq : q < ls.length
          · obtain ⟨bx, ox, cpx, hex, hcx⟩ := hx.at hlq
            cases hex
            obtain ⟨st, c0, hst0, c1, c2⟩ := hcx q hlq
            replace c0 := (hBX.cell (p := ⟨bx, _, none⟩) (lt_of_cell c0)).trans c0
            replace c1 := (hBX.cell (p := ⟨bx, _, none⟩) (lt_of_cell c1)).trans c1
            replace c2 := (hBX.cell (p := ⟨bx, _, none⟩) (lt_of_cell c2)).trans c2
            have hst := hst0.mono hBX
            obtain ⟨as1, cps, rfl⟩ := hst.len
            clear hcx
            have hqi : (q : Int) < (ls.length : Int) := by omega
            have hBH := (Below.refl _ wr).alloc (Nat.le_refl _) (.cells #[.slice as1 (rgAt ls q).s.length cps, .int .u64 (rgAt ls q).c, .int .u64 (rgAt ls q).o] 39)
            have bPH := bPX.grown hBH
            have bRH := BoxC.new wr 39 #[.slice as1 (rgAt ls q).s.length cps, .int .u64 (rgAt ls q).c, .int .u64 (rgAt ls q).o]
            have p0 := bPH.cell 0 rfl
            have p1 := bPH.cell 1 rfl
            have r0 := bRH.cell 0 rfl
            have r1 := bRH.cell 1 rfl
            have r2 := bRH.cell 2 rfl
            have hBwH := hBX.alloc hBX.size (.cells #[.slice as1 (rgAt ls q).s.length cps, .int .u64 (rgAt ls q).c, .int .u64 (rgAt ls q).o] 39)
            have hft := fits_any _ _ _ (rgAt ls q).c (rgAt ls q).o T (rgAt ls q).s _ (hv.mono hBwH) (hu.mono hBwH) hT (hst.mono hBH) (by have := hr q; omega) hok.len
            have L1 := @ordS_bad T ls q hlq
            have L2 := @ordS_next T ls q hlq
            rw [hFq.out] at L1 L2
            obtain ⟨d, hd⟩ : ∃ d, fitF T (rgAt ls q).s = d := ⟨_, rfl⟩
            rw [hd] at L1 L2 hft
            replace hft := Lib.hid hft
            by_cases hd0 : d = 0
            · subst hd0
              have L3 := L2 rfl
              replace L3 := Lib.hid L3
              clear L1 L2
              replace hd := Lib.hid hd
              go_wp2_with fail
              refine hft.out.mono ?_
              rintro e w2 ⟨rfl, hB3⟩
              go_wp2_with fail
              have hfr : ∀ b, u8.ownBlock = some b → x1.heap.size ≤ b ∧ b < wr.heap.size := row_in hou
              have hfl : ∀ b, lv.ownBlock = some b → x1.heap.size ≤ b ∧ b < wr.heap.size := row_in hol
              have hrs : (rgAt ls q).s.length = T.s.length := by
                have := hd.out
                unfold fitF at this
                split at this
                · cases this
                · rename_i h; simpa using h
              have hll : (lastTo T T.b.length).length = T.s.length := by rw [lastTo_len]; exact hok.eq
              have hcl := fun X (h1 : Below w.heap.size w X) (h2 : NumSl .i64 X u7 (lastTo T T.b.length)) => loudness_any _ _ _ u7 (rgAt ls q).c (rgAt ls q).o T (rgAt ls q).s (lastTo T T.b.length) X (hv.mono h1) (hu.mono h1) hok (hst0.mono h1) hrs h2 hll (last_ok T hok)
              have hB4 := hBH.trans (hB3.mono hBH.size)
              have hwr2 : wr.heap.size ≤ w2.heap.size := hB4.size
              have hlo : ∀ i b, rowOf u8 lv i = some b → x1.heap.size ≤ b ∧ b < wr.heap.size := fun i b e => by
                unfold rowOf at e
                split at e
                · exact hfr b e
                · split at e
                  · exact hfl b e
                  · cases e
              have hent : ∀ args X, (callFunc 43 args).run Try.prog X = .ok (.enter 43 args) X := enters_of Try.func43 (by kernel_rfl) rfl
              have hbk := fun i {X X' : World} (H : OB w w2 T x1.heap.size a0 g wr.heap.size #[.slice a T.s.length cap, .slice a2 T.b.length cap2] #[.slice as1 (rgAt ls q).s.length cps, .int .u64 (rgAt ls q).c, .int .u64 (rgAt ls q).o] lv u7 X) (hg : X.grownBy X' (rowOf u8 lv i)) => H.kept hg (hlo i) ha0x hgx hwx hybx
              refine region_once 12 (fun s => #[tabV (.slice a T.s.length cap) (.slice a2 T.b.length cap2), .slice (some ⟨bx, ox, none⟩) ls.length cap3, .pointer (some ⟨a0, 0, none⟩), undef, u4, u5, .int .i64 0, u7, s 11, .pointer (some ⟨g, 0, none⟩), undef, u11, .int .i64 q, .pointer (some ⟨wr.heap.size, 0, none⟩), .int .i64 0, .agg #[.slice a T.s.length cap, .slice a2 T.b.length cap2], .int .i64 0, .int .i64 0, .bool false, undef, .pointer (some ⟨a0, 1, none⟩), .slice a2 T.b.length cap2, .int .i64 T.b.length, .int .i64 T.b.length, .bool false, u25, u26, u27, u28, u29, u30, u31, u32, u33, u34, .slice (some ⟨bx, ox, none⟩) ls.length cap3, .int .i64 ls.length, .int .i64 q, .bool true, .int .i64 q, .pointer (some ⟨bx, ox + q * 3, none⟩), .agg #[.slice as1 (rgAt ls q).s.length cps, .int .u64 (rgAt ls q).c, .int .u64 (rgAt ls q).o], .agg #[.slice a T.s.length cap, .slice a2 T.b.length cap2], .agg #[.slice as1 (rgAt ls q).s.length cps, .int .u64 (rgAt ls q).c, .int .u64 (rgAt ls q).o], .int .i64 0, .int .i64 0, .bool false, u47, s 0, s 1, s 2, s 3, s 4, s 5, s 6, s 7, s 8, s 9, s 10, u59, undef, undef, undef, undef]) (fun i => match i with | 0 => u48 | 1 => u49 | 2 => u50 | 3 => u51 | 4 => u52 | 5 => u53 | 6 => u54 | 7 => u55 | 8 => u56 | 9 => u57 | 10 => u58 | 11 => u8 | _ => undef) [] (OSp w2.heap.size x1.heap.size T ls q u8 lv u7 (.agg #[.slice a T.s.length cap, .slice a2 T.b.length cap2]) (.agg #[.slice as1 (rgAt ls q).s.length cps, .int .u64 (rgAt ls q).c, .int .u64 (rgAt ls q).o])) (ONp x1.heap.size T ls q u8 lv) (OB w w2 T x1.heap.size a0 g wr.heap.size #[.slice a T.s.length cap, .slice a2 T.b.length cap2] #[.slice as1 (rgAt ls q).s.length cps, .int .u64 (rgAt ls q).c, .int .u64 (rgAt ls q).o] lv u7) (fun i X X' => X.grownBy X' (rowOf u8 lv i)) (mkO u8 lv) (fun s => s 11 = u8 ∨ s 11 = s 3) (by kernel_rfl) (by kernel_rfl) ?base ?need (.inl rfl) ?step ?stable ?stableN ?tail
              case base => exact ⟨Nat.le_refl _, (hBwH.trans (hB3.mono hBwH.size)).drew, bPH.grown hB3.drew, (bLX.grown hBH).grown hB3.drew, bRH.grown hB3.drew, (hyX.mono hBH).mono hB3.drew⟩
              case need => exact fun i => ⟨fun _ => ownsRow_kept hou (below_grown hB4.drew) (fun _ _ e => by cases e), fun _ => ownsRow_kept hol (below_grown hB4.drew) (fun _ _ e => by cases e)⟩
              case stable => exact fun i j u X X' hij _ h hg => osp_stable hij (fun i b e => by have := hlo i b e; omega) hne.out h hg
              case stableN => exact fun i j X X' hij _ h hg => onp_stable hij hne.out h hg
              case step =>
                intro i o hi' ho s X hb hn hd hw hE
                match i, hi' with
                | 0, _ =>
                  simp at ho
                  subst ho
                  have h11 : s 11 = u8 := hw 11 ⟨_, rfl, ⟨0, .phase⟩, by simp, rfl, rfl⟩
                  refine wp_val (v := u8) (X' := X) (by simp [execOp, go_sem, h11]) ⟨_, by simp [Act.put, upd], hb, by simpa [upd] using hE, rfl, World.grownBy.refl _ _, Nat.le_refl _, fun b h => by simp [mkO] at h⟩
                | 1, _ =>
                  simp at ho
                  subst ho
                  refine wp_val (v := .int .i64 q) (X' := X) (by simp [execOp, go_sem]) ⟨_, by simp [Act.put, upd], hb, by simpa [upd] using hE, rfl, World.grownBy.refl _ _, Nat.le_refl _, fun b h => by simp [mkO] at h⟩
                | 2, _ =>
                  simp at ho
                  subst ho
                  have h1 : s 1 = .int .i64 (q : Int) := hd ⟨1, .data⟩ (by simp) rfl
                  have hX : Below X.heap.size X (X.alloc (.cells #[.int .i64 (q : Int)] 3)) := (Below.refl _ X).alloc (Nat.le_refl _) _
                  refine wp_val (v := .slice (some ⟨X.heap.size, 0, none⟩) 1 1) (X' := X.alloc (.cells #[.int .i64 (q : Int)] 3)) (by simp [execOp, go_sem, h1]) ⟨_, by simp [Act.put, upd], hbk 2 hb (below_grown hX), by simpa [upd] using hE, ⟨X.heap.size, rfl, hb.sz, (BoxC.new X 3 #[.int .i64 (q : Int)]).cell 0 rfl, by simp⟩, below_grown hX, by simp, fun b h => by simp [mkO] at h⟩
                | 3, _ =>
                  simp at ho
                  subst ho
                  have h11 : s 11 = u8 := hw 11 ⟨_, rfl, ⟨3, .data⟩, by simp, rfl, rfl⟩
                  have h0 : s 0 = u8 := hd ⟨0, .data⟩ (by simp) rfl
                  obtain ⟨b2, e2, hb2, hc2, hl2⟩ : ∃ b, s 2 = .slice (some ⟨b, 0, none⟩) 1 1 ∧ w2.heap.size ≤ b ∧ X.cell? ⟨b, 0, none⟩ = some (.int .i64 (q : Int)) ∧ b < X.heap.size := hd ⟨2, .data⟩ (by simp) rfl
                  have hrow := hn.1 rfl
                  have hXsz := hb.sz
                  obtain ⟨gb, cp, X', hrun, ho2, hg2, hat, hlt⟩ := run_append_lies (P := Try.prog) X 40 40 x1.heap.size 3 i0 _ 1 8 Try.underlying40 hi hz0 hz1 hz2 rfl (by decide) u8 q _ hrow ⟨b2, 0, none⟩ 1 1 [.int .i64 (q : Int)] rfl (one_in hc2) (by simp [Value.oneCell']) (by decide) (by unfold maxLen; omega) (by omega) (by omega) X.heap.size rfl
                  have hE0 : ({ tmps := #[tabV (.slice a T.s.length cap) (.slice a2 T.b.length cap2), .slice (some ⟨bx, ox, none⟩) ls.length cap3, .pointer (some ⟨a0, 0, none⟩), undef, u4, u5, .int .i64 0, u7, s 11, .pointer (some ⟨g, 0, none⟩), undef, u11, .int .i64 q, .pointer (some ⟨wr.heap.size, 0, none⟩), .int .i64 0, .agg #[.slice a T.s.length cap, .slice a2 T.b.length cap2], .int .i64 0, .int .i64 0, .bool false, undef, .pointer (some ⟨a0, 1, none⟩), .slice a2 T.b.length cap2, .int .i64 T.b.length, .int .i64 T.b.length, .bool false, u25, u26, u27, u28, u29, u30, u31, u32, u33, u34, .slice (some ⟨bx, ox, none⟩) ls.length cap3, .int .i64 ls.length, .int .i64 q, .bool true, .int .i64 q, .pointer (some ⟨bx, ox + q * 3, none⟩), .agg #[.slice as1 (rgAt ls q).s.length cps, .int .u64 (rgAt ls q).c, .int .u64 (rgAt ls q).o], .agg #[.slice a T.s.length cap, .slice a2 T.b.length cap2], .agg #[.slice as1 (rgAt ls q).s.length cps, .int .u64 (rgAt ls q).c, .int .u64 (rgAt ls q).o], .int .i64 0, .int .i64 0, .bool false, u47, s 0, s 1, s 2, s 3, s 4, s 5, s 6, s 7, s 8, s 9, s 10, u59, undef, undef, undef, undef], defers := [] } : Act).eval (.tmp 48) = u8 := h0
                  have hE1 : ({ tmps := #[tabV (.slice a T.s.length cap) (.slice a2 T.b.length cap2), .slice (some ⟨bx, ox, none⟩) ls.length cap3, .pointer (some ⟨a0, 0, none⟩), undef, u4, u5, .int .i64 0, u7, s 11, .pointer (some ⟨g, 0, none⟩), undef, u11, .int .i64 q, .pointer (some ⟨wr.heap.size, 0, none⟩), .int .i64 0, .agg #[.slice a T.s.length cap, .slice a2 T.b.length cap2], .int .i64 0, .int .i64 0, .bool false, undef, .pointer (some ⟨a0, 1, none⟩), .slice a2 T.b.length cap2, .int .i64 T.b.length, .int .i64 T.b.length, .bool false, u25, u26, u27, u28, u29, u30, u31, u32, u33, u34, .slice (some ⟨bx, ox, none⟩) ls.length cap3, .int .i64 ls.length, .int .i64 q, .bool true, .int .i64 q, .pointer (some ⟨bx, ox + q * 3, none⟩), .agg #[.slice as1 (rgAt ls q).s.length cps, .int .u64 (rgAt ls q).c, .int .u64 (rgAt ls q).o], .agg #[.slice a T.s.length cap, .slice a2 T.b.length cap2], .agg #[.slice as1 (rgAt ls q).s.length cps, .int .u64 (rgAt ls q).c, .int .u64 (rgAt ls q).o], .int .i64 0, .int .i64 0, .bool false, u47, s 0, s 1, s 2, s 3, s 4, s 5, s 6, s 7, s 8, s 9, s 10, u59, undef, undef, undef, undef], defers := [] } : Act).eval (.tmp 50) = .slice (some ⟨b2, 0, none⟩) 1 1 := e2
                  refine wp_val (v := .slice (some ⟨gb, 0, none⟩) (q + 1) cp) (X' := X') (by unfold execOp; simp only [resolve, invoke, builtin, Sem.run_bind, Sem.run_pure, Result.andThen_ok, List.map_toArray, List.map_cons, List.map_nil, hE0, hE1, hrun]) ⟨_, by simp [Act.put, upd], hbk 3 hb hg2, .inl (by simpa [upd] using h11), ⟨gb, cp, rfl, by rw [show idxTo (q + 1) = idxTo q ++ [(q : Int)] from rfl, List.map_append]; exact ho2, hat.imp id (fun e => by omega)⟩, hg2, hg2.size, fun b h => mk_new (by simp) h hat hlt⟩
                | 4, _ =>
                  simp at ho
                  subst ho
                  have hc := hb.pg.cell 0 rfl
                  refine wp_val (v := lv) (X' := X) (by simp [execOp, go_sem, hc]) ⟨_, by simp [Act.put, upd], hb, by simpa [upd] using hE, rfl, World.grownBy.refl _ _, Nat.le_refl _, fun b h => by simp [mkO] at h⟩
                | 5, _ =>
                  simp at ho
                  subst ho
                  have hc := hb.pa.cell 0 rfl
                  have hc1 := hb.pa.cell 1 rfl
                  refine wp_val (v := .agg #[.slice a T.s.length cap, .slice a2 T.b.length cap2]) (X' := X) (by simp [execOp, go_sem, hc, hc1]) ⟨_, by simp [Act.put, upd], hb, by simpa [upd] using hE, rfl, World.grownBy.refl _ _, Nat.le_refl _, fun b h => by simp [mkO] at h⟩
                | 6, _ =>
                  simp at ho
                  subst ho
                  have hc := hb.ph.cell 0 rfl
                  have hc1 := hb.ph.cell 1 rfl
                  have hc2 := hb.ph.cell 2 rfl
                  refine wp_val (v := .agg #[.slice as1 (rgAt ls q).s.length cps, .int .u64 (rgAt ls q).c, .int .u64 (rgAt ls q).o]) (X' := X) (by simp [execOp, go_sem, hc, hc1, hc2]) ⟨_, by simp [Act.put, upd], hb, by simpa [upd] using hE, rfl, World.grownBy.refl _ _, Nat.le_refl _, fun b h => by simp [mkO] at h⟩
                | 7, _ =>
                  simp at ho
                  subst ho
                  refine wp_val (v := u7) (X' := X) (by simp [execOp, go_sem]) ⟨_, by simp [Act.put, upd], hb, by simpa [upd] using hE, rfl, World.grownBy.refl _ _, Nat.le_refl _, fun b h => by simp [mkO] at h⟩
                | 8, _ =>
                  simp at ho
                  subst ho
                  have h5 : s 5 = .agg #[.slice a T.s.length cap, .slice a2 T.b.length cap2] := hd ⟨5, .data⟩ (by simp) rfl
                  have h6 : s 6 = .agg #[.slice as1 (rgAt ls q).s.length cps, .int .u64 (rgAt ls q).c, .int .u64 (rgAt ls q).o] := hd ⟨6, .data⟩ (by simp) rfl
                  have h7 : s 7 = u7 := hd ⟨7, .data⟩ (by simp) rfl
                  refine wp_enter (f := 43) (args := #[.agg #[.slice a T.s.length cap, .slice a2 T.b.length cap2], .agg #[.slice as1 (rgAt ls q).s.length cps, .int .u64 (rgAt ls q).c, .int .u64 (rgAt ls q).o], u7]) (by simp [go_sem, h5, h6, h7, hent]) ((hcl X hb.lo hb.la).mono ?_)
                  rintro e X' ⟨rfl, hb2⟩
                  exact ⟨_, rfl, _, by simp [Act.put, upd, keyF], hbk 8 hb (below_grown hb2), by simpa [upd] using hE, rfl, below_grown hb2, hb2.size, fun b h => by simp [mkO] at h⟩
                | 9, _ =>
                  simp at ho
                  subst ho
                  have h1 : s 8 = .int .i64 (keyF T ls q) := hd ⟨8, .data⟩ (by simp) rfl
                  have hX : Below X.heap.size X (X.alloc (.cells #[.int .i64 (keyF T ls q)] 3)) := (Below.refl _ X).alloc (Nat.le_refl _) _
                  refine wp_val (v := .slice (some ⟨X.heap.size, 0, none⟩) 1 1) (X' := X.alloc (.cells #[.int .i64 (keyF T ls q)] 3)) (by simp [execOp, go_sem, h1]) ⟨_, by simp [Act.put, upd], hbk 9 hb (below_grown hX), by simpa [upd] using hE, ⟨X.heap.size, rfl, hb.sz, (BoxC.new X 3 #[.int .i64 (keyF T ls q)]).cell 0 rfl, by simp⟩, below_grown hX, by simp, fun b h => by simp [mkO] at h⟩
                | 10, _ =>
                  simp at ho
                  subst ho
                  have h0 : s 4 = lv := hd ⟨4, .data⟩ (by simp) rfl
                  obtain ⟨b2, e2, hb2, hc2, hl2⟩ : ∃ b, s 9 = .slice (some ⟨b, 0, none⟩) 1 1 ∧ w2.heap.size ≤ b ∧ X.cell? ⟨b, 0, none⟩ = some (.int .i64 (keyF T ls q)) ∧ b < X.heap.size := hd ⟨9, .data⟩ (by simp) rfl
                  have hrow := hn.2 rfl
                  have hXsz := hb.sz
                  obtain ⟨gb, cp, X', hrun, ho2, hg2, hat, hlt⟩ := run_append_lies (P := Try.prog) X 40 40 x1.heap.size 3 i0 _ 1 8 Try.underlying40 hi hz0 hz1 hz2 rfl (by decide) lv q _ hrow ⟨b2, 0, none⟩ 1 1 [.int .i64 (keyF T ls q)] rfl (one_in hc2) (by simp [Value.oneCell']) (by decide) (by unfold maxLen; omega) (by omega) (by omega) X.heap.size rfl
                  have hE0 : ({ tmps := #[tabV (.slice a T.s.length cap) (.slice a2 T.b.length cap2), .slice (some ⟨bx, ox, none⟩) ls.length cap3, .pointer (some ⟨a0, 0, none⟩), undef, u4, u5, .int .i64 0, u7, s 11, .pointer (some ⟨g, 0, none⟩), undef, u11, .int .i64 q, .pointer (some ⟨wr.heap.size, 0, none⟩), .int .i64 0, .agg #[.slice a T.s.length cap, .slice a2 T.b.length cap2], .int .i64 0, .int .i64 0, .bool false, undef, .pointer (some ⟨a0, 1, none⟩), .slice a2 T.b.length cap2, .int .i64 T.b.length, .int .i64 T.b.length, .bool false, u25, u26, u27, u28, u29, u30, u31, u32, u33, u34, .slice (some ⟨bx, ox, none⟩) ls.length cap3, .int .i64 ls.length, .int .i64 q, .bool true, .int .i64 q, .pointer (some ⟨bx, ox + q * 3, none⟩), .agg #[.slice as1 (rgAt ls q).s.length cps, .int .u64 (rgAt ls q).c, .int .u64 (rgAt ls q).o], .agg #[.slice a T.s.length cap, .slice a2 T.b.length cap2], .agg #[.slice as1 (rgAt ls q).s.length cps, .int .u64 (rgAt ls q).c, .int .u64 (rgAt ls q).o], .int .i64 0, .int .i64 0, .bool false, u47, s 0, s 1, s 2, s 3, s 4, s 5, s 6, s 7, s 8, s 9, s 10, u59, undef, undef, undef, undef], defers := [] } : Act).eval (.tmp 52) = lv := h0
                  have hE1 : ({ tmps := #[tabV (.slice a T.s.length cap) (.slice a2 T.b.length cap2), .slice (some ⟨bx, ox, none⟩) ls.length cap3, .pointer (some ⟨a0, 0, none⟩), undef, u4, u5, .int .i64 0, u7, s 11, .pointer (some ⟨g, 0, none⟩), undef, u11, .int .i64 q, .pointer (some ⟨wr.heap.size, 0, none⟩), .int .i64 0, .agg #[.slice a T.s.length cap, .slice a2 T.b.length cap2], .int .i64 0, .int .i64 0, .bool false, undef, .pointer (some ⟨a0, 1, none⟩), .slice a2 T.b.length cap2, .int .i64 T.b.length, .int .i64 T.b.length, .bool false, u25, u26, u27, u28, u29, u30, u31, u32, u33, u34, .slice (some ⟨bx, ox, none⟩) ls.length cap3, .int .i64 ls.length, .int .i64 q, .bool true, .int .i64 q, .pointer (some ⟨bx, ox + q * 3, none⟩), .agg #[.slice as1 (rgAt ls q).s.length cps, .int .u64 (rgAt ls q).c, .int .u64 (rgAt ls q).o], .agg #[.slice a T.s.length cap, .slice a2 T.b.length cap2], .agg #[.slice as1 (rgAt ls q).s.length cps, .int .u64 (rgAt ls q).c, .int .u64 (rgAt ls q).o], .int .i64 0, .int .i64 0, .bool false, u47, s 0, s 1, s 2, s 3, s 4, s 5, s 6, s 7, s 8, s 9, s 10, u59, undef, undef, undef, undef], defers := [] } : Act).eval (.tmp 57) = .slice (some ⟨b2, 0, none⟩) 1 1 := e2
                  refine wp_val (v := .slice (some ⟨gb, 0, none⟩) (q + 1) cp) (X' := X') (by unfold execOp; simp only [resolve, invoke, builtin, Sem.run_bind, Sem.run_pure, Result.andThen_ok, List.map_toArray, List.map_cons, List.map_nil, hE0, hE1, hrun]) ⟨_, by simp [Act.put, upd], hbk 10 hb hg2, by simpa [upd] using hE, ⟨gb, cp, rfl, by rw [show keysTo T ls (q + 1) = keysTo T ls q ++ [(keyF T ls q)] from rfl, List.map_append]; exact ho2, hat.imp id (fun e => by omega)⟩, hg2, hg2.size, fun b h => mk_new (by simp) h hat hlt⟩
                | 11, _ =>
                  simp at ho
                  subst ho
                  obtain ⟨b3, cp3, e3, -, -⟩ : ∃ b cp, s 3 = .slice (some ⟨b, 0, none⟩) (q + 1) cp ∧ _ ∧ _ := hd ⟨3, .data⟩ (by simp) rfl
                  refine wp_val (v := s 3) (X' := X) (by simp [execOp, go_sem]) ⟨_, by simp [Act.put, upd], hb, .inr (by simp [upd]), ⟨_, cp3, e3⟩, World.grownBy.refl _ _, Nat.le_refl _, fun b h => by simp [mkO] at h⟩
              case tail =>
                intro o ho s X hb hS hne2 hE
                simp at ho
                subst ho
                obtain ⟨b3, cp3, e3, ho3, hat3⟩ : ∃ b cp, s 3 = .slice (some ⟨b, 0, none⟩) (q + 1) cp ∧ X.ownsRow x1.heap.size 3 1 (s 3) (q + 1) ((idxTo (q + 1)).map (Value.int .i64)) ∧ (u8.ownBlock = some b ∨ w2.heap.size ≤ b) := hS 3 (by omega)
                obtain ⟨b10, cp10, e10, ho10, hat10⟩ : ∃ b cp, s 10 = .slice (some ⟨b, 0, none⟩) (q + 1) cp ∧ X.ownsRow x1.heap.size 3 1 (s 10) (q + 1) ((keysTo T ls (q + 1)).map (Value.int .i64)) ∧ (lv.ownBlock = some b ∨ w2.heap.size ≤ b) := hS 10 (by omega)
                obtain ⟨a11, cp11, e11⟩ : ∃ a cp, s 11 = .slice a (q + 1) cp := hS 11 (by omega)
                have h11 : s 11 = s 3 := hE.resolve_left (fun h => by
                  rcases hou.2 with ⟨h5, h6⟩ | ⟨g5, cap5, cur5, h5, _⟩
                  · rw [h, h5] at e11; simp at e11
                  · rw [h, h5] at e11; simp at e11)
                have hdis : b3 ≠ b10 := ord_dis hfr hfl hwr2 hne.out hat3 hat10 (fun h1 h2 => hne2 3 10 b3 (by omega) (by omega) (by omega) (by rw [e3]; exact h1) (by rw [e10]; exact h2))
                have ho11 : X.ownsRow x1.heap.size 3 1 (s 11) (q + 1) ((idxTo (q + 1)).map (Value.int .i64)) := by rw [h11]; exact ho3
                have e11' : s 11 = .slice (some ⟨b3, 0, none⟩) (q + 1) cp3 := by rw [h11]; exact e3
                have c9 := hb.pg.cell 0 rfl
                have f9 := hb.pg.frozen 0
                refine wp_skip (X' := X.setCell ⟨g, 0, none⟩ (s 10)) (by simp [execOp, go_sem, e10, c9, f9]) ?_
                have hgs := grownBy_setCell X ⟨g, 0, none⟩ (s 10)
                have hgX : g < X.heap.size := hb.pg.lt
                have hxX : x1.heap.size ≤ (X.setCell ⟨g, 0, none⟩ (s 10)).heap.size := by have := hgs.size; have := hb.sz; omega
                have k1 := hb.lo.grown hgs hb.lo.size (fun b e => by cases e; exact hgw)
                have k2 := hb.pa.other (p := ⟨g, 0, none⟩) (Ne.symm hgne) (s 10)
                have k3 := hb.la.kept hgs (fun b e _ e2 => by cases e2; exact hyg g e rfl)
                have k4 := ownsRow_kept ho11 hgs (fun b e e2 => by cases e2; have h9 : x1.heap.size ≤ g := (row_in ho11 _ e).1; omega)
                have k5 := hb.pg.set 0 (s 10)
                have k6 := ownsRow_kept ho10 hgs (fun b e e2 => by cases e2; have h9 : x1.heap.size ≤ g := (row_in ho10 _ e).1; omega)
                have k7 : ∀ b, (s 11).ownBlock = some b → (s 10).ownBlock ≠ some b := fun b e e2 => by rw [e11'] at e; rw [e10] at e2; cases e; cases e2; exact hdis rfl
                replace k7 := Lib.hid k7
                generalize X.setCell ⟨g, 0, none⟩ (s 10) = Y at hxX k1 k2 k3 k4 k5 k6 ⊢
                simp only [Act.put]
                go_wp2_with fail
                go_roundw
                case rel => exact ⟨q + 1, by omega, by go_num, Lib.hid L3.out.symm, k1, k2, k3, hxX, fun h => by omega, k4, s 10, k5, k6, k7⟩
                case measure => simp [intOf]; omega
            · have L3 := L1 hd0
              replace L3 := Lib.hid L3
              clear L1 L2
              have hdt : (d != 0) = true := by simpa using hd0
              replace hd := Lib.hid hd
              go_wp2_with fail
              refine hft.out.mono ?_
              rintro e w2 ⟨rfl, hB3⟩
              go_wp2
              go_ret2
              exact ⟨hBwH.trans (hB3.mono hBwH.size), .inl ⟨by rw [L3.out]; exact hd0, by rw [L3.out]; rfl⟩⟩
          · obtain rfl : q = ls.length := by omega
            have hF0 : ordF T ls = 0 := by rw [← hFq.out]; exact ordS_end (Nat.le_refl _)
            have hqi : ¬ (ls.length : Int) < (ls.length : Int) := by omega
            replace hF0 := Lib.hid hF0
            rcases Nat.eq_zero_or_pos ls.length with h0 | h0
            · obtain rfl := hun h0
              have hso := fun W => sort_none (.func (.func 46) #[] #[.pointer (some ⟨g, 0, none⟩)]) W
              replace hso := Lib.hid hso
              have hl0 : (ls.length : Int) = 0 := by omega
              go_wp2_with fail
              refine (hso.out _).mono ?_
              rintro e w3 ⟨rfl, rfl⟩
              go_wp2
              go_ret2
              exact ⟨hBX, .inr ⟨hF0.out, _, [], rfl, .inl ⟨⟨_, _, rfl⟩, rfl⟩, ⟨by rw [h0]; rfl, fun _ _ _ => by omega, fun _ _ _ => by omega, fun _ _ _ _ _ => by omega⟩⟩⟩
            · have hkl := keysTo_len T ls ls.length
              have hnl := ownsRow_num (w := wr) (base := x1.heap.size) (v := lv) (xs := keysTo T ls ls.length) (by rw [hkl]; exact hol)
              obtain ⟨gu, cu, rfl, hg1, hg2⟩ := hou.form h0
              have hkb : ∀ i, 0 ≤ nth (keysTo T ls ls.length) i ∧ nth (keysTo T ls ls.length) i ≤ 1000000000000000 := fun i => by
                rcases Nat.lt_or_ge i ls.length with hi1 | hi1
                · rw [keysTo_nth _ _ _ _ hi1]
                  unfold keyF
                  have h8 := loudF_bd (rs := (rgAt ls i).s) hok (last_ok T hok) T.s.length (Nat.le_refl _)
                  have h9 := hok.n
                  omega
                · unfold nth
                  rw [List.getElem?_eq_none (by rw [keysTo_len]; exact hi1)]
                  simp
              have hcmp : CmpOk (fun z => keyF T ls z.toNat) ls.length gu #[.pointer (some ⟨g, 0, none⟩)] wr := fun x y W hx hy hgr => by
                have hlk := hnl.kept hgr (fun b e _ e2 => by cases e2; exact hne.out gu rfl e)
                have := cmp_any x y g lv (keysTo T ls ls.length) W (bLX.kept hgr (fun e => by cases e; omega)) hlk (by omega) (by omega) hkb
                rw [keysTo_nth _ _ _ _ hx, keysTo_nth _ _ _ _ hy] at this
                simpa using this
              have hso := sort_any (fun z => keyF T ls z.toNat) ls.length gu cu x1.heap.size #[.pointer (some ⟨g, 0, none⟩)] (idxTo ls.length) wr hl h0 hcmp (fun i hi => by have := hkb i; rw [keysTo_nth _ _ _ _ hi] at this; simpa using this) hou (idx_out _ _)
              replace hso := Lib.hid hso
              clear hou hcmp
              go_wp2_with fail
              refine hso.out.mono ?_
              rintro e w3 ⟨rfl, hgr, ys, hst, hown⟩
              go_wp2
              go_ret2
              have hyl := hst.len
              exact ⟨hBX.grown hgr hBX.size (fun b e => by cases e; omega), .inr ⟨hF0.out, _, ys, rfl, ownsRow_num (by rw [hyl]; exact hown), hst⟩⟩
  · have hF2 := hF ht
    have ht2 : (tabF T != 0) = true := by simpa using ht
    clear hF hF0
    replace hF2 := Lib.hid hF2
    go_enter Try.func30, Try.ntmps30
    go_wp2_with fail
    refine hck.out.mono ?_
    rintro e w1 ⟨rfl, hB1⟩
    go_wp2
    go_ret2
    exact ⟨hB.trans (hB1.mono hB.size), .inl ⟨by rw [hF2.out]; exact ht, by rw [hF2.out]; rfl⟩⟩
end Go.Proofs.Ytbfldhmpgealpaa
