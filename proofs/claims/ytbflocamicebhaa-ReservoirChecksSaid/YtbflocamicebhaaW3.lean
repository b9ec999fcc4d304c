/- The contract of first: the first tick whose state has a property. Conditions: a right reservoir with right demands (Okay). -/
import Derived.Test.YtbflocamicebhaaW2
namespace Go.Proofs.Ytbflocamicebhaa
open Go.RowKit Go.Shelf
attribute [local go_sem] Oper.semAt_some

set_option maxHeartbeats 400000 in
theorem states_any (c l s q : Int) (v : Value) (a : Option Addr) (len cap : Nat) (hv : v = .slice a len cap) (w : World) :
    Calls Try.prog 38 #[.agg #[.int .i64 c, .int .i64 l, .int .i64 s, .int .i64 q], v] w fun e w' =>
      e = .returned (.func (.func 46) #[] #[.pointer (some ⟨w.heap.size, 0, none⟩), .pointer (some ⟨w.heap.size + 1, 0, none⟩)]) ∧ (w.alloc (.cells #[.int .i64 c, .int .i64 l, .int .i64 s, .int .i64 q] 28)).alloc (.cells #[v] 29) = w' := by
  subst hv
  have hmf : ∀ (fn : Fn) (first cap : Array Value) (w : World), (Instr.makeFunc fn first cap).run Try.prog w = .ok (.func fn first cap) w := fun _ _ _ _ => rfl
  go_enter Try.func38, Try.ntmps38
  go_wp2
  go_ret
  exact ⟨rfl, rfl⟩

set_option maxRecDepth 100000 in
set_option maxHeartbeats 2000000 in
theorem first_any (g : Nat) (lb : Array Value) (p : Int × Int × Int → Bool) (c l s q : Int) (v : Value) (xs : List Int) (h : Okay c l s q xs) (w : World) (hv : IntSl w v xs)
    (henter : ∀ args w, (callFunc g args).run Try.prog w = .ok (.enter g args) w) (hp : ∀ t w', Below w.heap.size w w' → Calls Try.prog g (#[stV t] ++ lb) w' fun e w'' => e = .returned (.bool (p t)) ∧ Below w'.heap.size w' w'') :
    Calls Try.prog 40 #[.agg #[.int .i64 c, .int .i64 l, .int .i64 s, .int .i64 q], v, .func (.func g) #[] lb] w fun e w' =>
      e = .returned (.tuple #[.int .i64 (firstF (fun i => p (stAt c s l xs i)) xs.length).1, .bool (firstF (fun i => p (stAt c s l xs i)) xs.length).2]) ∧ Below w.heap.size w w' := by
  obtain ⟨a, cap, hva⟩ := hv.len
  refine (callsIn_wide (n := 9)).1 ?_
  refine callsIn_of_wp_marks Try.func40 rfl trivial ?_ rfl
  simp only [Try.ntmps40, List.size_toArray, List.length_cons, List.length_nil, Nat.reduceAdd, Nat.reduceSub, Array.replicate_succ, Array.replicate_zero, List.push_toArray, List.append_toArray, List.nil_append, List.cons_append]
  subst hva
  gi_wp2_with (refine ⟨trivial, ?_⟩; gi_at_call 38; refine (callsIn_wide.2 (states_any _ _ _ _ _ a xs.length cap rfl _)).mono ?_; rintro e w' ⟨rfl, rfl⟩)
  have hsz : ((((((w.alloc (.cells #[.int .i64 c, .int .i64 l, .int .i64 s, .int .i64 q] 28)).alloc (.cells #[.func (.func g) #[] lb] 71)).alloc (.cells #[.int .i64 0] 3)).alloc (.cells #[.bool false] 4)).alloc (.cells #[.int .i64 c, .int .i64 l, .int .i64 s, .int .i64 q] 28)).alloc (.cells #[.slice a xs.length cap] 29)).heap.size = w.heap.size + 6 := by simp
  have b5 := ((((BoxC.new (w.alloc (.cells #[.int .i64 c, .int .i64 l, .int .i64 s, .int .i64 q] 28)) 71 #[.func (.func g) #[] lb]).alloc (.cells #[.int .i64 0] 3)).alloc (.cells #[.bool false] 4)).alloc (.cells #[.int .i64 c, .int .i64 l, .int .i64 s, .int .i64 q] 28)).alloc (.cells #[.slice a xs.length cap] 29)
  have b6 := (((BoxC.new ((w.alloc (.cells #[.int .i64 c, .int .i64 l, .int .i64 s, .int .i64 q] 28)).alloc (.cells #[.func (.func g) #[] lb] 71)) 3 #[.int .i64 0]).alloc (.cells #[.bool false] 4)).alloc (.cells #[.int .i64 c, .int .i64 l, .int .i64 s, .int .i64 q] 28)).alloc (.cells #[.slice a xs.length cap] 29)
  have b7 := ((BoxC.new (((w.alloc (.cells #[.int .i64 c, .int .i64 l, .int .i64 s, .int .i64 q] 28)).alloc (.cells #[.func (.func g) #[] lb] 71)).alloc (.cells #[.int .i64 0] 3)) 4 #[.bool false]).alloc (.cells #[.int .i64 c, .int .i64 l, .int .i64 s, .int .i64 q] 28)).alloc (.cells #[.slice a xs.length cap] 29)
  have b8 := (BoxC.new ((((w.alloc (.cells #[.int .i64 c, .int .i64 l, .int .i64 s, .int .i64 q] 28)).alloc (.cells #[.func (.func g) #[] lb] 71)).alloc (.cells #[.int .i64 0] 3)).alloc (.cells #[.bool false] 4)) 28 #[.int .i64 c, .int .i64 l, .int .i64 s, .int .i64 q]).alloc (.cells #[.slice a xs.length cap] 29)
  have b9 := BoxC.new (((((w.alloc (.cells #[.int .i64 c, .int .i64 l, .int .i64 s, .int .i64 q] 28)).alloc (.cells #[.func (.func g) #[] lb] 71)).alloc (.cells #[.int .i64 0] 3)).alloc (.cells #[.bool false] 4)).alloc (.cells #[.int .i64 c, .int .i64 l, .int .i64 s, .int .i64 q] 28)) 29 #[.slice a xs.length cap]
  have hB0 : Below w.heap.size w ((((((w.alloc (.cells #[.int .i64 c, .int .i64 l, .int .i64 s, .int .i64 q] 28)).alloc (.cells #[.func (.func g) #[] lb] 71)).alloc (.cells #[.int .i64 0] 3)).alloc (.cells #[.bool false] 4)).alloc (.cells #[.int .i64 c, .int .i64 l, .int .i64 s, .int .i64 q] 28)).alloc (.cells #[.slice a xs.length cap] 29)) :=
    ((((((Below.refl _ w).alloc (Nat.le_refl _) _).alloc (by simp) _).alloc (by simp; omega) _).alloc (by simp; omega) _).alloc (by simp; omega) _).alloc (by simp; omega) _
  simp only [World.size_alloc] at b5 b6 b7 b8 b9
  generalize ((((((w.alloc (.cells #[.int .i64 c, .int .i64 l, .int .i64 s, .int .i64 q] 28)).alloc (.cells #[.func (.func g) #[] lb] 71)).alloc (.cells #[.int .i64 0] 3)).alloc (.cells #[.bool false] 4)).alloc (.cells #[.int .i64 c, .int .i64 l, .int .i64 s, .int .i64 q] 28)).alloc (.cells #[.slice a xs.length cap] 29)) = W0 at hsz b5 b6 b7 b8 b9 hB0 ⊢
  refine wpIn_rangeFunc_ownH rfl (by omega) (gf := 46) (lb := #[.pointer (some ⟨w.heap.size + 1 + 1 + 1 + 1, 0, none⟩), .pointer (some ⟨w.heap.size + 1 + 1 + 1 + 1 + 1, 0, none⟩)]) rfl trivial (enters_of Try.func46 (by kernel_rfl) rfl)
    (states_stops 8 (by omega) (fun k => k = w.heap.size + 1 + 1 ∨ k = w.heap.size + 1 + 1 + 1) none w.heap.size c l s q _ xs h W0 _ _ (b8.cell 0 rfl) (b8.cell 1 rfl) (b8.cell 2 rfl) (b8.cell 3 rfl) (b9.cell 0 rfl) (hv.mono hB0) ?hvn (by simp) ?hfp)
    Keeps.trans (Keeps.putObj (by simp)) (Below.refl _ _) (fun _ => rfl)
    (fun pre W => ((∀ x ∈ pre, p (stAt c s l xs x.val) = false) ∧ BoxC W (w.heap.size + 1) 71 #[.func (.func g) #[] lb] ∧ BoxC W (w.heap.size + 1 + 1) 3 #[.int .i64 0] ∧ BoxC W (w.heap.size + 1 + 1 + 1) 4 #[.bool false]) ∧ Below w.heap.size w W)
    (fun e pre W => (e = .ret ∧ ∃ pre' x, pre = pre' ++ [x] ∧ (∀ x ∈ pre', p (stAt c s l xs x.val) = false) ∧ p (stAt c s l xs x.val) = true ∧ BoxC W (w.heap.size + 1 + 1) 3 #[.int .i64 (x.val : Int)] ∧ BoxC W (w.heap.size + 1 + 1 + 1) 4 #[.bool true]) ∧ Below w.heap.size w W)
    (OwnFrom.and (OwnFrom.and (ownFrom_pure _ _) (OwnFrom.and (Own.from (boxC_own _ _ _) _) (OwnFrom.and (Own.from (boxC_own _ _ _) _) (Own.from (boxC_own _ _ _) _)))) (ownFrom_below (Nat.le_refl _) (by omega)))
    ?hIx
    ⟨⟨by simp, b5, b6, b7⟩, hB0⟩
    (fun x a' W => ∃ Bx, w.heap.size + 1 + 1 + 1 < Bx ∧ BoxC W Bx 40 #[.int .i64 (stAt c s l xs x.val).1, .int .i64 (stAt c s l xs x.val).2.1, .int .i64 (stAt c s l xs x.val).2.2] ∧ a' = { tmps := #[.agg #[.int .i64 c, .int .i64 l, .int .i64 s, .int .i64 q], .slice a xs.length cap, .func (.func g) #[] lb, .pointer (some ⟨w.heap.size, 0, none⟩), undef, .pointer (some ⟨w.heap.size + 1, 0, none⟩), .pointer (some ⟨w.heap.size + 1 + 1, 0, none⟩), .pointer (some ⟨w.heap.size + 1 + 1 + 1, 0, none⟩), .int .i64 (x.val : Int), .pointer (some ⟨Bx, 0, none⟩),
        .agg #[.int .i64 c, .int .i64 l, .int .i64 s, .int .i64 q], .slice a xs.length cap, .func (.func 46) #[] #[.pointer (some ⟨w.heap.size + 1 + 1 + 1 + 1, 0, none⟩), .pointer (some ⟨w.heap.size + 1 + 1 + 1 + 1 + 1, 0, none⟩)], .int .i64 (x.val : Int), stV (stAt c s l xs x.val), undef, undef, undef, undef], defers := [] })
    ?hAx ?assign ?body ?done ?stop
  case hvn =>
    intro b hn hb
    obtain ⟨b', off, cap', he, hc⟩ := hv.at hn
    rw [he] at hb
    cases hb
    exact lt_of_cell hc
  case hfp =>
    rintro k (hk | ⟨b, v, hb, _⟩)
    · omega
    · cases hb
  case hIx =>
    intro e
    refine OwnFrom.and ?_ (ownFrom_below (Nat.le_refl _) (by omega))
    rintro pre X Y row ⟨rfl, pre', x, h1, h2, h3, h4, h5⟩ hg hr
    exact ⟨rfl, pre', x, h1, h2, h3, boxC_own _ _ (fun (_ : Unit) => #[Value.int .i64 (x.val : Int)]) () X Y row h4 hg (fun r e => (hr r e).2), boxC_own _ _ (fun (_ : Unit) => #[Value.bool true]) () X Y row h5 hg (fun r e => (hr r e).2)⟩
  case hAx =>
    rintro x a' _ X Y row ⟨Bx, h1, h2, h3⟩ hg hr
    exact ⟨Bx, h1, boxC_own Bx 40 (fun (_ : Unit) => #[Value.int .i64 (stAt c s l xs x.val).1, .int .i64 (stAt c s l xs x.val).2.1, .int .i64 (stAt c s l xs x.val).2.2]) () X Y row h2 hg (fun r e => (hr r e).2), h3⟩
  case assign =>
    rintro j pre x W K ⟨⟨hI1, hI2, hI3, hI4⟩, hI5⟩ hK
    have hb := (Below.refl W.heap.size W).alloc (Nat.le_refl _) (.cells #[.int .i64 (stAt c s l xs x.val).1, .int .i64 (stAt c s l xs x.val).2.1, .int .i64 (stAt c s l xs x.val).2.2] 40)
    simp only [encS, stV]
    gi_wp2
    exact hK _ _ (keepsFrom_grown hb) (Keeps.grown hb (by simp)) ⟨⟨hI1, hI2.grown hb, hI3.grown hb, hI4.grown hb⟩, hI5.trans (hb.mono hI5.size)⟩ ⟨W.heap.size, hI4.lt, BoxC.new W 40 _, rfl⟩
  case body =>
    rintro j pre x a' W hl ⟨r, hr⟩ ⟨⟨hI1, hI2, hI3, hI4⟩, hI5⟩ ⟨Bx, hBx, bX, rfl⟩ hlt
    have c2 := hI2.cell 0 rfl
    have c3 := bX.cell 0 rfl
    have c4 := bX.cell 1 rfl
    have c5 := bX.cell 2 rfl
    have hpt := hp (stAt c s l xs x.val) W hI5
    gi_wp2_with fail
    refine ⟨trivial, ?_⟩
    refine (CallsIn.inRound j (callsIn_wide.2 hpt)).mono ?_
    rintro e w' ⟨rfl, hb⟩
    have k2 := hI3.grown hb
    have k3 := hI4.grown hb
    have d2 := k2.cell 0 rfl
    have d3 := k3.cell 0 rfl
    have f2 := k2.frozen 0
    have f3 := k3.frozen 0
    have hB := hI5.trans (hb.mono hI5.size)
    clear c2 c3 c4 c5 hpt
    cases hpx : p (stAt c s l xs x.val)
    · have hpx2 := Lib.hid hpx; clear hpx
      gi_wp2
      refine ⟨keepsFrom_grown hb, Keeps.grown hb (by simp), ⟨⟨?_, hI2.grown hb, hI3.grown hb, hI4.grown hb⟩, hI5.trans (hb.mono hI5.size)⟩⟩
      intro y hy
      rcases List.mem_append.1 hy with hy | hy
      · exact hI1 y hy
      · simp at hy; subst hy; exact hpx2.out
    · have hpx2 := Lib.hid hpx; clear hpx
      gi_wp2
      refine ⟨(keepsFrom_grown hb).trans (((KeepsOthers.setCell _ _ _).from _).trans ((KeepsOthers.setCell _ _ _).from _)), ⟨rfl, pre, x, rfl, hI1, hpx2.out, ?_, ?_⟩, ?_⟩
      · exact (k2.set 0 _).other (by simp) _
      · exact (k3.other (by simp) _).set 0 _
      · exact (hB.setCell (p := ⟨w.heap.size + 1 + 1, 0, none⟩) (by simp; omega) _).setCell (p := ⟨w.heap.size + 1 + 1 + 1, 0, none⟩) (by simp; omega) _
  case done =>
    rintro D ys W hD rfl ⟨⟨hI1, hI2, hI3, hI4⟩, hI5⟩ hK
    have c2 := hI3.cell 0 rfl
    have c3 := hI4.cell 0 rfl
    have f2 := hI3.frozen 0
    have f3 := hI4.frozen 0
    gi_wp2
    have e2 : BoxC ((W.setCell ⟨w.heap.size + 1 + 1, 0, none⟩ (.int .i64 0)).setCell ⟨w.heap.size + 1 + 1 + 1, 0, none⟩ (.bool false)) (w.heap.size + 1 + 1) 3 #[.int .i64 0] := (hI3.set 0 _).other (by simp) _
    have e3 : BoxC ((W.setCell ⟨w.heap.size + 1 + 1, 0, none⟩ (.int .i64 0)).setCell ⟨w.heap.size + 1 + 1 + 1, 0, none⟩ (.bool false)) (w.heap.size + 1 + 1 + 1) 4 #[.bool false] := (hI4.other (by simp) _).set 0 _
    have hK2 := ((KeepsOthers.setCell W ⟨w.heap.size + 1 + 1, 0, none⟩ (.int .i64 0)).trans (KeepsOthers.setCell _ ⟨w.heap.size + 1 + 1 + 1, 0, none⟩ (.bool false))).same D _ hK rfl
    have hB2 := (hI5.setCell (p := ⟨w.heap.size + 1 + 1, 0, none⟩) (by simp; omega) (.int .i64 0)).setCell (p := ⟨w.heap.size + 1 + 1 + 1, 0, none⟩) (by simp; omega) (.bool false)
    have g2 := (e2.putObj (.deferred none) hK2 rfl).cell 0 rfl
    have g3 := (e3.putObj (.deferred none) hK2 rfl).cell 0 rfl
    refine endM hK2 (v := .tuple #[.int .i64 0, .bool false]) (by simp [results, Try.f40, go_sem, g2, g3]) ⟨?_, below_putObj hB2 _ (by omega) hK2⟩
    rw [firstF_none hI1]
  case stop =>
    rintro D e pre W hD hpre ⟨⟨rfl, pre', x, rfl, hn, hx, h1, h2⟩, hB⟩ hK
    gi_wp2
    have g2 := (h1.putObj (.deferred none) hK rfl).cell 0 rfl
    have g3 := (h2.putObj (.deferred none) hK rfl).cell 0 rfl
    refine endM hK (v := .tuple #[.int .i64 (x.val : Int), .bool true]) (by simp [results, Try.f40, go_sem, g2, g3]) ⟨?_, below_putObj hB _ (by omega) hK⟩
    rw [firstF_some hpre hn hx]
end Go.Proofs.Ytbflocamicebhaa
