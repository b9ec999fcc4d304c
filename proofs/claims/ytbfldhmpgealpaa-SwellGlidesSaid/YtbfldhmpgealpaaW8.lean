/- The contract of Arrival. Conditions: at most 2^40 levels and movements. -/
import Derived.Test.YtbfldhmpgealpaaW7
namespace Go.Proofs.Ytbfldhmpgealpaa
open Go.RowKit Go.Shelf
attribute [local go_sem] Oper.semAt_some

def arrAt (l : List Mv) (k : Nat) : Int := (mv l k).t + absI ((mv l k).s - stgAt l k) * (mv l k).p
def arrivalF (l : List Mv) : Int := lastK (arrAt l) l.length
def ArrivalF (ls : List Int) (l : List Mv) : Int × Int := if cmF ls l ≠ 0 then (0, cmF ls l) else (arrivalF l, 0)

set_option maxRecDepth 100000 in
set_option maxHeartbeats 4000000 in
theorem Arrival_any (v : Value) (ls : List Int) (v2 : Value) (l : List Mv) (w : World) (hv : NumSl .i64 w v ls) (hm : ls.length ≤ 1099511627776) (hv2 : MvSl w v2 l) (hm2 : l.length ≤ 1099511627776) :
    Calls Try.prog 33 #[.agg #[v], v2] w fun e w' => e = .returned (.tuple #[.int .i64 (ArrivalF ls l).1, .int .i64 (ArrivalF ls l).2]) ∧ Below w.heap.size w w' := by
  have hB := (Below.refl w.heap.size w).alloc (Nat.le_refl _) (.cells #[v] 49)
  have hv1 := hv.mono hB
  have hm1 := hv2.mono hB
  have hvlt : ∀ b, 0 < l.length → v2.ownBlock = some b → b < w.heap.size := by
    intro b hn hb
    obtain ⟨b', off, cap', he, hc⟩ := hv2.at hn
    rw [he] at hb
    cases hb
    exact lt_of_cell (hc 0 hn).1
  obtain ⟨a, cap, rfl⟩ := hv.len
  obtain ⟨a2, cap2, hva2⟩ := hv2.len
  obtain ⟨F, hF⟩ : ∃ F, ArrivalF ls l = F := ⟨_, rfl⟩
  rw [hF]
  unfold ArrivalF at hF
  have hck := CheckMoves_any _ ls _ l _ hv1 hm hm1 hm2
  obtain ⟨d, hd⟩ : ∃ d, cmF ls l = d := ⟨_, rfl⟩
  rw [hd] at hF hck
  subst hva2
  replace hck := Lib.hid hck
  refine (callsIn_wide (n := 9)).1 ?_
  refine callsIn_of_wp_marks Try.func33 rfl trivial ?_ rfl
  simp only [Try.ntmps33, List.size_toArray, List.length_cons, List.length_nil, Nat.reduceAdd, Nat.reduceSub, Array.replicate_succ, Array.replicate_zero, List.push_toArray, List.append_toArray, List.nil_append, List.cons_append]
  gi_wp2_with fail
  refine ⟨trivial, ?_⟩
  refine (callsIn_wide.2 hck.out).mono ?_
  rintro e w1 ⟨rfl, hb⟩
  have hB1 := hB.trans (hb.mono hB.size)
  have hm3 := hm1.mono hb
  clear hck hv1 hv hm1 hB hb
  by_cases h0 : d = 0
  · subst h0
    obtain ⟨_, hbok, hok⟩ := cm_ok hd
    clear hd
    rw [if_neg (by simp)] at hF
    subst hF
    gi_wp2_with (refine ⟨trivial, ?_⟩; gi_at_call 47; refine (callsIn_wide.2 (stages_any _ a2 l.length cap2 rfl _)).mono ?_; rintro e w' ⟨rfl, rfl⟩)
    have bO := (BoxC.new w1 3 #[.int .i64 0]).alloc (.cells #[.slice a2 l.length cap2] 59)
    have bD := BoxC.new (w1.alloc (.cells #[.int .i64 0] 3)) 59 #[.slice a2 l.length cap2]
    simp only [World.size_alloc] at bD
    have hbW : Below w1.heap.size w1 ((w1.alloc (.cells #[.int .i64 0] 3)).alloc (.cells #[.slice a2 l.length cap2] 59)) := ((Below.refl _ w1).alloc (Nat.le_refl _) _).alloc (by simp) _
    have hsz : ((w1.alloc (.cells #[.int .i64 0] 3)).alloc (.cells #[.slice a2 l.length cap2] 59)).heap.size = w1.heap.size + 2 := by simp
    have hm4 := hm3.mono hbW
    have hB0 := hB1.trans (hbW.mono hB1.size)
    have hs1 := hB1.size
    clear hm3 hbW hB1
    generalize ((w1.alloc (.cells #[.int .i64 0] 3)).alloc (.cells #[.slice a2 l.length cap2] 59)) = W0 at hsz bO bD hm4 hB0 ⊢
    refine wpIn_rangeFunc_ownH rfl (by omega) (gf := 52) (lb := #[.pointer (some ⟨w1.heap.size + 1, 0, none⟩)]) rfl trivial (enters_of Try.func52 (by kernel_rfl) rfl)
      (stages_stops 8 (by omega) (fun k => k = w1.heap.size) none w.heap.size ls.length _ l hok W0 _ (bD.cell 0 rfl) hm4 hvlt (by simp) ?hfp)
      Keeps.trans (Keeps.putObj (by simp)) (Below.refl _ _) (fun _ => rfl)
      (fun pre W => BoxC W w1.heap.size 3 #[.int .i64 (lastP (arrAt l) pre)] ∧ Below w.heap.size w W)
      (fun _ _ _ => False)
      (OwnFrom.and (Own.from (boxC_own _ _ _) _) (ownFrom_below (Nat.le_refl _) (by omega)))
      (fun _ _ _ _ _ hs _ _ => hs)
      ⟨bO, hB0⟩
      (fun x a' W => ∃ Bx, BoxC W Bx 64 #[.int .i64 (mv l x.val).t, .int .i64 (mv l x.val).s, .int .i64 (mv l x.val).p] ∧ a' = { tmps := #[.agg #[.slice a ls.length cap], .slice a2 l.length cap2, .pointer (some ⟨w.heap.size, 0, none⟩), undef, .int .i64 0, .int .i64 0, .int .i64 0, .pointer (some ⟨w1.heap.size, 0, none⟩), .int .i64 (stgAt l x.val), .pointer (some ⟨Bx, 0, none⟩), .agg #[.slice a ls.length cap], .slice a2 l.length cap2, .int .i64 0, .int .i64 0, .bool false, undef, .slice a2 l.length cap2, .func (.func 52) #[] #[.pointer (some ⟨w1.heap.size + 1, 0, none⟩)], .int .i64 (stgAt l x.val), mvV (mv l x.val), undef, undef, undef, undef, undef, undef, undef, undef, undef, undef, undef, undef], defers := [] })
      ?hAx ?assign ?body ?done ?stop
    case hfp =>
      rintro k (hk | ⟨b, v, hb, _⟩)
      · omega
      · cases hb
    case hAx =>
      rintro x a' _ X Y row ⟨Bx, h2, h3⟩ hg hr
      exact ⟨Bx, boxC_own Bx 64 (fun (_ : Unit) => #[Value.int .i64 (mv l x.val).t, .int .i64 (mv l x.val).s, .int .i64 (mv l x.val).p]) () X Y row h2 hg (fun r e => (hr r e).2), h3⟩
    case assign =>
      rintro j pre x W K ⟨hI3, hI5⟩ hK
      have hb := (Below.refl W.heap.size W).alloc (Nat.le_refl _) (.cells #[.int .i64 (mv l x.val).t, .int .i64 (mv l x.val).s, .int .i64 (mv l x.val).p] 64)
      simp only [encM, mvV]
      gi_wp2
      trace_state
      exact hK _ _ (keepsFrom_grown hb) (Keeps.grown hb (by simp)) ⟨hI3.grown hb, hI5.trans (hb.mono hI5.size)⟩ ⟨W.heap.size, BoxC.new W 64 _, rfl⟩
    case body =>
      rintro j pre x a' W hl ⟨r, hr⟩ ⟨hI3, hI5⟩ ⟨Bx, bX, rfl⟩ hlt
      have hst := stgAt_bd hok x.val x.isLt
      have hmr := hok.r x.val x.isLt
      have hN := hok.n1
      unfold MvR at hmr
      have hoo : (mv l x.val).t + absI ((mv l x.val).s - stgAt l x.val) * (mv l x.val).p = arrAt l x.val := rfl
      replace hoo := Lib.hid hoo
      have x0 := bX.cell 0 rfl
      have x1 := bX.cell 1 rfl
      have x2 := bX.cell 2 rfl
      have k3 := hI3.drew
      have kf := k3.frozen 0
      generalize (mv l x.val) = mk at hmr hoo x0 x1 x2 bX ⊢
      obtain ⟨t, s, p⟩ := mk
      simp only at hmr x0 x1 x2 hoo
      generalize stgAt l x.val = st at hst hoo ⊢
      have hm1 := @absI_bd (s - st)
      obtain ⟨m, hm⟩ : ∃ m, absI (s - st) = m := ⟨_, rfl⟩
      rw [hm] at hoo hm1
      have hm0 : 0 ≤ m ∧ m ≤ 64 := by omega
      have hmp : 0 ≤ m * p ∧ m * p ≤ 640000 := by
        have a1 : m * p ≤ m * 10000 := Int.mul_le_mul_of_nonneg_left (by omega) hm0.1
        have a2 : 0 ≤ m * p := Int.mul_nonneg hm0.1 (by omega)
        omega
      have hcall : ∀ W : World, Calls Try.prog 44 #[.int .i64 (s - st)] W fun e w' => e = .returned (.int .i64 m) ∧ w' = W := fun W => by
        have := abs_any (s - st) W (by omega) (by omega)
        rw [hm] at this
        exact this.mono fun _ _ h => ⟨h.1, h.2.symm⟩
      replace hcall := Lib.hid hcall
      replace hm := Lib.hid hm
      clear hm1
      have w1' : IntKind.i64.wrap (s - st) = s - st := IntWalk.i64_in _ (by omega)
      have w2' : IntKind.i64.wrap (m * p) = m * p := IntWalk.i64_in _ (by omega)
      have w3' : IntKind.i64.wrap (t + m * p) = t + m * p := IntWalk.i64_in _ (by omega)
      gi_wp2_with fail
      refine region_tail_round 11 (by kernel_rfl) (by kernel_rfl) (by kernel_rfl) ?_
      simp only [List.take_succ_cons, List.take_zero, List.drop_succ_cons, List.drop_zero]
      repeat still_step
      still_call (hcall.out _)
      repeat still_step
      refine wpStill_nil ?_
      have hbd : Below W.heap.size W W.drew := (Below.refl _ _).drew
      rw [hoo.out]
      generalize W.drew = W6 at k3 kf hbd ⊢
      clear x0 x1 x2 w1' w2' w3'
      have c3 := k3.cell 0 rfl
      go_wp2
      refine ⟨by simp, ?_⟩
      gi_wp2
      refine ⟨(keepsFrom_grown hbd).trans ((KeepsOthers.setCell _ _ _).from _), (Keeps.grown hbd (by simp)).trans (Keeps.setCell _ _ rfl (by simp)), ?_, ?_⟩
      · rw [lastP_snoc]
        exact k3.set 0 _
      · exact (hI5.trans (hbd.mono hI5.size)).setCell (p := ⟨w1.heap.size, 0, none⟩) (by simp; omega) _
    case done =>
      rintro D ys W hD rfl ⟨hI3, hI5⟩ hK
      have c3 := hI3.cell 0 rfl
      have hres : arrivalF l = lastP (arrAt l) (List.finRange l.length) := by
        unfold arrivalF
        rw [lastP_all]
      replace hres := Lib.hid hres
      gi_wp2
      exact endM hK (v := .tuple #[.int .i64 (lastP (arrAt l) (List.finRange l.length)), .int .i64 0]) (by simp [results, Try.f33, go_sem]) ⟨by rw [← hres.out], below_putObj hI5 _ (by omega) hK⟩
    case stop =>
      rintro D e pre W hD hpre h hK
      exact h.elim
  · obtain ⟨g1, g2⟩ := neq_of h0
    rw [if_pos h0] at hF
    subst hF
    clear hd h0
    gi_wp2
    exact endM0 (v := .tuple #[.int .i64 0, .int .i64 d]) (by simp [results, Try.f33, go_sem]) ⟨rfl, hB1⟩
end Go.Proofs.Ytbfldhmpgealpaa
