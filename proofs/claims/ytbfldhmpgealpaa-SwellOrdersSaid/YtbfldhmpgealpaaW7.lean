/- The contract of Stage. Conditions: at most 2^40 levels and movements. -/
import Derived.Test.YtbfldhmpgealpaaW6
namespace Go.Proofs.Ytbfldhmpgealpaa
open Go.RowKit Go.Shelf
attribute [local go_sem] Oper.semAt_some

theorem pre_take {n : Nat} {pre : List (Fin n)} {x : Fin n} (hp : pre ++ [x] <+: List.finRange n) : pre = (List.finRange n).take x.val ∧ pre.length = x.val := by
  obtain ⟨t, ht⟩ := hp
  have hxv : pre.length = x.val := by
    have h1 : (List.finRange n)[pre.length]? = some x := by rw [← ht]; simp
    rw [List.getElem?_eq_some_iff] at h1
    obtain ⟨h2, h3⟩ := h1
    rw [← h3]; simp
  refine ⟨?_, hxv⟩
  rw [← hxv, ← ht]
  simp

/-- the value behind the last of some movements, each of which sets it anew -/
def lastP {n : Nat} (f : Nat → Int) (pre : List (Fin n)) : Int := pre.foldl (fun _ x => f x.val) 0
def lastK (f : Nat → Int) (k : Nat) : Int := if k = 0 then 0 else f (k - 1)
theorem lastP_snoc {n : Nat} (f : Nat → Int) (pre : List (Fin n)) (x : Fin n) : lastP f (pre ++ [x]) = f x.val := by simp [lastP]
theorem lastP_take {n : Nat} (f : Nat → Int) : ∀ k, k ≤ n → lastP f ((List.finRange n).take k) = lastK f k
  | 0, _ => rfl
  | k + 1, h => by rw [take_fin (by omega), lastP_snoc]; rfl
theorem lastP_all {n : Nat} (f : Nat → Int) : lastP f (List.finRange n) = lastK f n := by
  have := lastP_take (n := n) f n (Nat.le_refl _)
  rwa [List.take_of_length_le (by simp)] at this

/-- the first movement behind a tick -/
def pastP (l : List Mv) (tick : Int) (k : Nat) : Bool := decide (tick < (mv l k).t)
def outAt (l : List Mv) (tick : Int) (k : Nat) : Int := afterF (mv l k) (stgAt l k) tick
def stageF (l : List Mv) (tick : Int) : Int := lastK (outAt l tick) (if (firstF (pastP l tick) l.length).2 then (firstF (pastP l tick) l.length).1.toNat else l.length)
def StageF (ls : List Int) (l : List Mv) (tick : Int) : Int × Int := if cmF ls l ≠ 0 then (0, cmF ls l) else if ¬ (0 ≤ tick ∧ tick ≤ 2000000000) then (0, 3) else (stageF l tick, 0)

theorem cm_ok {ls : List Int} {l : List Mv} (h : cmF ls l = 0) : chkF ls = 0 ∧ BoxOk ls ∧ MvOk ls.length l := by
  unfold cmF at h
  split at h
  · rename_i h1; exact absurd h h1
  · rename_i h1
    have h2 : chkF ls = 0 := by simpa using h1
    have hb := boxOk_of h2
    exact ⟨h2, hb, mvOk_of (by have := hb.n1; omega) h⟩

set_option maxRecDepth 100000 in
set_option maxHeartbeats 4000000 in
theorem Stage_any (v : Value) (ls : List Int) (v2 : Value) (l : List Mv) (tick : Int) (w : World) (hv : NumSl .i64 w v ls) (hm : ls.length ≤ 1099511627776) (hv2 : MvSl w v2 l) (hm2 : l.length ≤ 1099511627776) :
    Calls Try.prog 32 #[.agg #[v], v2, .int .i64 tick] w fun e w' => e = .returned (.tuple #[.int .i64 (StageF ls l tick).1, .int .i64 (StageF ls l tick).2]) ∧ Below w.heap.size w w' := by
  have hB := ((Below.refl w.heap.size w).alloc (Nat.le_refl _) (.cells #[v] 49)).alloc (by simp) (.cells #[.int .i64 tick] 3)
  have bP := (BoxC.new w 49 #[v]).alloc (.cells #[.int .i64 tick] 3)
  have bT := BoxC.new (w.alloc (.cells #[v] 49)) 3 #[.int .i64 tick]
  simp only [World.size_alloc] at bT
  have hv1 := hv.mono hB
  have hm1 := hv2.mono hB
  have hvlt : ∀ b, 0 < l.length → v2.ownBlock = some b → b < w.heap.size := by
    intro b hn hb
    obtain ⟨b', off, cap', he, hc⟩ := hv2.at hn
    rw [he] at hb
    cases hb
    exact lt_of_cell (hc 0 hn).1
  obtain ⟨a, cap, rfl⟩ := hv.len
  obtain ⟨a2, cap2, hva2⟩ := hv2.len
  obtain ⟨F, hF⟩ : ∃ F, StageF ls l tick = F := ⟨_, rfl⟩
  rw [hF]
  unfold StageF at hF
  have hck := CheckMoves_any _ ls _ l _ hv1 hm hm1 hm2
  obtain ⟨d, hd⟩ : ∃ d, cmF ls l = d := ⟨_, rfl⟩
  rw [hd] at hF hck
  subst hva2
  replace hck := Lib.hid hck
  refine (callsIn_wide (n := 9)).1 ?_
  refine callsIn_of_wp_marks Try.func32 rfl trivial ?_ rfl
  simp only [Try.ntmps32, List.size_toArray, List.length_cons, List.length_nil, Nat.reduceAdd, Nat.reduceSub, Array.replicate_succ, Array.replicate_zero, List.push_toArray, List.append_toArray, List.nil_append, List.cons_append]
  gi_wp2_with fail
  refine ⟨trivial, ?_⟩
  refine (callsIn_wide.2 hck.out).mono ?_
  rintro e w1 ⟨rfl, hb⟩
  have hB1 := hB.trans (hb.mono hB.size)
  have bT1 := bT.grown hb
  have hm3 := hm1.mono hb
  clear hck hv1 hv bP bT hm1 hB hb
  by_cases h0 : d = 0
  · subst h0
    obtain ⟨_, hbok, hok⟩ := cm_ok hd
    clear hd
    rw [if_neg (by simp)] at hF
    have c5 := bT1.cell 0 rfl
    by_cases h1 : 0 ≤ tick ∧ tick ≤ 2000000000
    · have e1 := Lib.hid (betw_true h1)
      rw [if_neg (by simpa using h1)] at hF
      subst hF
      obtain ⟨ht0, ht1⟩ := h1
      gi_wp2_with (refine ⟨trivial, ?_⟩; first | (gi_at_call 38; refine (callsIn_wide.2 (within_any _ _ _ _)).mono ?_; rintro e w' ⟨rfl, rfl⟩; rw [e1.out]) | (gi_at_call 47; refine (callsIn_wide.2 (stages_any _ a2 l.length cap2 rfl _)).mono ?_; rintro e w' ⟨rfl, rfl⟩))
      have bO := (BoxC.new w1 3 #[.int .i64 0]).alloc (.cells #[.slice a2 l.length cap2] 59)
      have bD := BoxC.new (w1.alloc (.cells #[.int .i64 0] 3)) 59 #[.slice a2 l.length cap2]
      simp only [World.size_alloc] at bD
      have hbW : Below w1.heap.size w1 ((w1.alloc (.cells #[.int .i64 0] 3)).alloc (.cells #[.slice a2 l.length cap2] 59)) := ((Below.refl _ w1).alloc (Nat.le_refl _) _).alloc (by simp) _
      have hsz : ((w1.alloc (.cells #[.int .i64 0] 3)).alloc (.cells #[.slice a2 l.length cap2] 59)).heap.size = w1.heap.size + 2 := by simp
      have hlt1 := bT1.lt
      have bT2 := bT1.grown hbW
      have hm4 := hm3.mono hbW
      have hB0 := hB1.trans (hbW.mono hB1.size)
      have hs1 := hB1.size
      clear c5 bT1 hm3 hbW hB1
      generalize ((w1.alloc (.cells #[.int .i64 0] 3)).alloc (.cells #[.slice a2 l.length cap2] 59)) = W0 at hsz bO bD bT2 hm4 hB0 ⊢
      refine wpIn_rangeFunc_ownH rfl (by omega) (gf := 52) (lb := #[.pointer (some ⟨w1.heap.size + 1, 0, none⟩)]) rfl trivial (enters_of Try.func52 (by kernel_rfl) rfl)
        (stages_stops 8 (by omega) (fun k => k = w1.heap.size) none w.heap.size ls.length _ l hok W0 _ (bD.cell 0 rfl) hm4 hvlt (by simp) ?hfp)
        Keeps.trans (Keeps.putObj (by simp)) (Below.refl _ _) (fun _ => rfl)
        (fun pre W => ((∀ x ∈ pre, pastP l tick x.val = false) ∧ BoxC W (w.heap.size + 1) 3 #[.int .i64 tick] ∧ BoxC W w1.heap.size 3 #[.int .i64 (lastP (outAt l tick) pre)]) ∧ Below w.heap.size w W)
        (fun c pre W => (c = .exit 0 ∧ ∃ pre' x, pre = pre' ++ [x] ∧ (∀ y ∈ pre', pastP l tick y.val = false) ∧ pastP l tick x.val = true ∧ BoxC W w1.heap.size 3 #[.int .i64 (lastP (outAt l tick) pre')]) ∧ Below w.heap.size w W)
        (OwnFrom.and (OwnFrom.and (ownFrom_pure _ _) (OwnFrom.and (Own.from (boxC_own _ _ _) _) (Own.from (boxC_own _ _ _) _))) (ownFrom_below (Nat.le_refl _) (by omega)))
        ?hIx
        ⟨⟨by simp, bT2, bO⟩, hB0⟩
        (fun x a' W => ∃ Bx, BoxC W Bx 64 #[.int .i64 (mv l x.val).t, .int .i64 (mv l x.val).s, .int .i64 (mv l x.val).p] ∧ a' = { tmps := #[.agg #[.slice a ls.length cap], .slice a2 l.length cap2, .int .i64 tick, .pointer (some ⟨w.heap.size, 0, none⟩), undef, .pointer (some ⟨w.heap.size + 1, 0, none⟩), .int .i64 0, .int .i64 0, .int .i64 0, .pointer (some ⟨w1.heap.size, 0, none⟩), .int .i64 (stgAt l x.val), .pointer (some ⟨Bx, 0, none⟩), .agg #[.slice a ls.length cap], .slice a2 l.length cap2, .int .i64 0, .int .i64 0, .bool false, undef, .int .i64 tick, .bool true, .bool false, .slice a2 l.length cap2, .func (.func 52) #[] #[.pointer (some ⟨w1.heap.size + 1, 0, none⟩)], .int .i64 (stgAt l x.val), mvV (mv l x.val), undef, undef, undef, undef, undef, undef, undef, undef, undef], defers := [] })
        ?hAx ?assign ?body ?done ?stop
      case hfp =>
        rintro k (hk | ⟨b, v, hb, _⟩)
        · omega
        · cases hb
      case hIx =>
        intro e
        refine OwnFrom.and ?_ (ownFrom_below (Nat.le_refl _) (by omega))
        rintro pre X Y row ⟨rfl, pre', x, h1, h2, h3, h4⟩ hg hr
        exact ⟨rfl, pre', x, h1, h2, h3, boxC_own _ _ (fun (_ : Unit) => #[Value.int .i64 (lastP (outAt l tick) pre')]) () X Y row h4 hg (fun r e => (hr r e).2)⟩
      case hAx =>
        rintro x a' _ X Y row ⟨Bx, h2, h3⟩ hg hr
        exact ⟨Bx, boxC_own Bx 64 (fun (_ : Unit) => #[Value.int .i64 (mv l x.val).t, .int .i64 (mv l x.val).s, .int .i64 (mv l x.val).p]) () X Y row h2 hg (fun r e => (hr r e).2), h3⟩
      case assign =>
        rintro j pre x W K ⟨⟨hI1, hI2, hI3⟩, hI5⟩ hK
        have hb := (Below.refl W.heap.size W).alloc (Nat.le_refl _) (.cells #[.int .i64 (mv l x.val).t, .int .i64 (mv l x.val).s, .int .i64 (mv l x.val).p] 64)
        simp only [encM, mvV]
        gi_wp2
        exact hK _ _ (keepsFrom_grown hb) (Keeps.grown hb (by simp)) ⟨⟨hI1, hI2.grown hb, hI3.grown hb⟩, hI5.trans (hb.mono hI5.size)⟩ ⟨W.heap.size, BoxC.new W 64 _, rfl⟩
      case body =>
        rintro j pre x a' W hl ⟨r, hr⟩ ⟨⟨hI1, hI2, hI3⟩, hI5⟩ ⟨Bx, bX, rfl⟩ hlt
        have hst := stgAt_bd hok x.val x.isLt
        have hmr := hok.r x.val x.isLt
        have hN := hok.n1
        unfold MvR at hmr
        have hpp : pastP l tick x.val = decide (tick < (mv l x.val).t) := rfl
        have hoo : afterF (mv l x.val) (stgAt l x.val) tick = outAt l tick x.val := rfl
        have c0 := hI2.cell 0 rfl
        have x0 := bX.cell 0 rfl
        have x1 := bX.cell 1 rfl
        have x2 := bX.cell 2 rfl
        by_cases hp : tick < (mv l x.val).t
        · rw [decide_eq_true hp] at hpp
          replace hpp := Lib.hid hpp
          clear hoo
          gi_wp2
          exact ⟨KeepsFrom.refl _ _, ⟨rfl, pre, x, rfl, hI1, hpp.out, hI3⟩, hI5⟩
        · rw [decide_eq_false hp] at hpp
          replace hpp := Lib.hid hpp
          replace hoo := Lib.hid hoo
          generalize (mv l x.val) = mk at hmr hoo x0 x1 x2 hp ⊢
          obtain ⟨t, s, p⟩ := mk
          simp only at hmr x0 x1 x2 hp
          generalize stgAt l x.val = st at hst hoo ⊢
          gi_wp2_with fail
          refine ⟨trivial, ?_⟩
          refine (CallsIn.inRound j (callsIn_wide.2 (after_any t s p st tick _ (by omega) (by omega) (by omega) (by omega) (by omega) (by omega) (by omega) (by omega) (by omega)))).mono ?_
          rintro e w' ⟨rfl, hb⟩
          rw [hoo.out]
          have k3 := hI3.grown hb
          have d3 := k3.cell 0 rfl
          have f3 := k3.frozen 0
          clear c0 x0 x1 x2
          gi_wp2
          refine ⟨(keepsFrom_grown hb).trans ((KeepsOthers.setCell _ _ _).from _), (Keeps.grown hb (by simp)).trans (Keeps.setCell _ _ rfl (by simp)), ⟨?_, ?_, ?_⟩, ?_⟩
          · intro y hy
            rcases List.mem_append.1 hy with hy | hy
            · exact hI1 y hy
            · simp at hy; subst hy; exact hpp.out
          · exact (hI2.grown hb).other (by simp; omega) _
          · rw [lastP_snoc]
            exact k3.set 0 _
          · exact (hI5.trans (hb.mono hI5.size)).setCell (p := ⟨w1.heap.size, 0, none⟩) (by simp; omega) _
      case done =>
        rintro D ys W hD rfl ⟨⟨hI1, hI2, hI3⟩, hI5⟩ hK
        have c3 := hI3.cell 0 rfl
        have hres : stageF l tick = lastP (outAt l tick) (List.finRange l.length) := by
          unfold stageF
          rw [firstF_none hI1, lastP_all]
          rfl
        replace hres := Lib.hid hres
        gi_wp2
        exact endM hK (v := .tuple #[.int .i64 (lastP (outAt l tick) (List.finRange l.length)), .int .i64 0]) (by simp [results, Try.f32, go_sem]) ⟨by rw [← hres.out], below_putObj hI5 _ (by omega) hK⟩
      case stop =>
        rintro D e pre W hD hpre ⟨⟨rfl, pre', x, rfl, hn, hx, h1⟩, hB⟩ hK
        have c3 := h1.cell 0 rfl
        have hres : stageF l tick = lastP (outAt l tick) pre' := by
          unfold stageF
          rw [firstF_some hpre hn hx, (pre_take hpre).1, lastP_take _ _ (by omega)]
          rfl
        replace hres := Lib.hid hres
        gi_wp2
        exact endM hK (v := .tuple #[.int .i64 (lastP (outAt l tick) pre'), .int .i64 0]) (by simp [results, Try.f32, go_sem]) ⟨by rw [← hres.out], below_putObj hB _ (by omega) hK⟩
    · have e1 := Lib.hid (betw_false h1)
      rw [if_pos h1] at hF
      subst hF
      clear h1
      gi_wp2_with (refine ⟨trivial, ?_⟩; gi_at_call 38; refine (callsIn_wide.2 (within_any _ _ _ _)).mono ?_; rintro e w' ⟨rfl, rfl⟩; rw [e1.out])
      exact endM0 (v := .tuple #[.int .i64 0, .int .i64 3]) (by simp [results, Try.f32, go_sem]) ⟨rfl, hB1⟩
  · obtain ⟨g1, g2⟩ := neq_of h0
    rw [if_pos h0] at hF
    subst hF
    clear hd h0
    gi_wp2
    exact endM0 (v := .tuple #[.int .i64 0, .int .i64 d]) (by simp [results, Try.f32, go_sem]) ⟨rfl, hB1⟩
end Go.Proofs.Ytbfldhmpgealpaa
