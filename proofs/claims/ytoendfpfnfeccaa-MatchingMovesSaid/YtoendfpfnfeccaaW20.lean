/- The contracts of verify and put. Conditions: right costs; lists that fit into memory. -/
import Derived.Test.YtoendfpfnfeccaaW18
import Derived.Test.YtoendfpfnfeccaaOpenK
import Derived.StillTailTactics
namespace Go.Proofs.Ytoendfpfnfeccaa
open Go.RowKit Go.Shelf

/-- the error of a result behind that of its columns -/
def vrfF (css : List (List Int)) (tot : Int) (rows ls : List Int) (T : Int) : Int := if tot ≠ T then 7 else if szE css rows ls ≠ 0 then szE css rows ls else if valF css rows ls = false ∨ sumF rows ls < T then 20 else 0
/-- what prove says is what verify says, and a bound of the rows -/
theorem prv_vrf3 {css : List (List Int)} {tot : Int} {rows ls : List Int} {T most : Int} : prvF css tot rows ls T 0 most = if vrfF css tot rows ls T ≠ 0 then vrfF css tot rows ls T else if anyF (aboveB most) rows = true then 20 else 0 := by
  unfold prvF vrfF potF
  generalize szE css rows ls = s
  generalize valF css rows ls = q
  generalize sumF rows ls = z
  generalize anyF (aboveB most) rows = r
  by_cases h1 : T = tot
  · subst h1
    by_cases h2 : s = 0
    · subst h2
      cases q
      · simp
      · by_cases h4 : z < T
        · simp [h4]
        · cases r <;> simp [h4]
    · simp [h2]
  · have h1' : tot ≠ T := fun e => h1 e.symm
    simp [h1, h1']
theorem prv_vrf {css : List (List Int)} {tot : Int} {rows ls : List Int} {T most : Int} (hm : szE css rows ls = 0 → anyF (aboveB most) rows = false) : prvF css tot rows ls T 0 most = vrfF css tot rows ls T := by
  rw [prv_vrf3]
  by_cases h : vrfF css tot rows ls T = 0
  · rw [h, if_neg (by simp)]
    cases ha : anyF (aboveB most) rows
    · simp
    · exfalso
      have hs : szE css rows ls ≠ 0 := fun e => by rw [hm e] at ha; cases ha
      unfold vrfF at h
      by_cases h1 : tot = T
      · rw [if_neg (by simp [h1]), if_pos hs] at h
        exact hs h
      · rw [if_pos h1] at h
        cases h
  · rw [if_pos h]
set_option maxRecDepth 100000 in
set_option maxHeartbeats 2000000 in
theorem verify_any (v vc vr vl : Value) (css : List (List Int)) (rows ls : List Int) (tot T : Int) (w : World) (hv : SlSl w v css) (hvc : ∃ a n c, vc = .slice a n c) (hr : NumSl .i64 w vr rows) (hl : NumSl .i64 w vl ls) (hok : CsOk css) :
    Calls Try.prog 29 #[v, resB vc tot vr vl, .int .i64 T] w (IntBelow (vrfF css tot rows ls T) w) := by
  obtain ⟨F, hF⟩ : ∃ F, vrfF css tot rows ls T = F := ⟨_, rfl⟩
  rw [hF]
  unfold vrfF at hF
  have hB : Below w.heap.size w (w.alloc (.cells #[vc, .int .i64 tot, vr, vl] 32)) := (Below.refl _ w).alloc (Nat.le_refl _) _
  have b1 := BoxC.new w 32 #[vc, .int .i64 tot, vr, vl]
  have hSz := fun w' (hb : Below w.heap.size w w') => refSizes_any v vr vl css rows ls w' (hv.mono hb) (hr.mono hb) (hl.mono hb) hok
  have hVa := fun w' (hb : Below w.heap.size w w') (h : SzOk css rows ls) => refValid_any v vr vl css rows ls w' (hv.mono hb) (hr.mono hb) (hl.mono hb) hok h
  have hSu := fun w' (hb : Below w.heap.size w w') (h : SzOk css rows ls) => refSum_any vr vl rows ls w' (hr.mono hb) (hl.mono hb) (by rw [h.r]; have := hok.n; omega) (by rw [h.c]; have := hok.m; omega) h.rb h.cb
  obtain ⟨av, cv, rfl⟩ := hv.len
  obtain ⟨ac, nc, cc, rfl⟩ := hvc
  obtain ⟨ar, cr, rfl⟩ := hr.len
  obtain ⟨al, cl, rfl⟩ := hl.len
  replace hSz := Lib.hid hSz
  replace hVa := Lib.hid hVa
  replace hSu := Lib.hid hSu
  replace hF := Lib.hid hF
  clear hv hr hl hok
  have c1 := b1.cell 1 rfl
  have c2 := b1.cell 2 rfl
  have c3 := b1.cell 3 rfl
  by_cases h1 : tot = T
  · subst h1
    have hF1 := Lib.hid (show (if szE css rows ls ≠ 0 then szE css rows ls else if valF css rows ls = false ∨ sumF rows ls < tot then 20 else 0) = F by have := hF.out; simpa using this)
    clear hF
    obtain ⟨d, hd⟩ : ∃ d, szE css rows ls = d := ⟨_, rfl⟩
    have hSz2 := fun w' hb => hSz.out w' hb
    rw [hd] at hSz2
    have hF2 := hF1.out
    rw [hd] at hF2
    replace hSz2 := Lib.hid hSz2
    replace hF2 := Lib.hid hF2
    clear hSz hF1
    by_cases h2 : d = 0
    · have hk := szOk_of (hd.trans h2)
      have hVa2 := fun w' hb => hVa.out w' hb hk
      have hSu2 := fun w' hb => hSu.out w' hb hk
      have hF3 := Lib.hid (show (if valF css rows ls = false ∨ sumF rows ls < tot then 20 else 0) = F by have := hF2.out; simpa [h2] using this)
      subst h2
      obtain ⟨q, hq⟩ : ∃ q, valF css rows ls = q := ⟨_, rfl⟩
      obtain ⟨s, hs⟩ : ∃ s, sumF rows ls = s := ⟨_, rfl⟩
      rw [hq] at hVa2
      rw [hs] at hSu2
      have hF4 := hF3.out
      rw [hq, hs] at hF4
      replace hVa2 := Lib.hid hVa2
      replace hSu2 := Lib.hid hSu2
      replace hF4 := Lib.hid hF4
      replace hd := Lib.hid hd
      replace hq := Lib.hid hq
      replace hs := Lib.hid hs
      replace hk := Lib.hid hk
      clear hVa hSu hF2 hF3
      go_enter Try.func29, Try.ntmps29
      go_wp2_with fail
      refine (hSz2.out _ hB).mono ?_
      rintro e w2 ⟨rfl, hb2⟩
      have hB2 := hB.trans (hb2.mono hB.size)
      have b12 := b1.grown hb2
      clear c1 c2 c3
      have c2 := b12.cell 2 rfl
      have c3 := b12.cell 3 rfl
      go_wp2_with fail
      refine (hVa2.out _ hB2).mono ?_
      rintro e w3 ⟨rfl, hb3⟩
      have hB3 := hB2.trans (hb3.mono hB2.size)
      have b13 := b12.grown hb3
      clear c2 c3
      have c2 := b13.cell 2 rfl
      have c3 := b13.cell 3 rfl
      cases q with
      | false =>
        have hF20 : F = 20 := by rw [← hF4.out]; simp
        subst hF20
        clear hF4
        go_wp2_with fail
        go_ret
        exact ⟨rfl, hB3⟩
      | true =>
        go_wp2_with fail
        refine (hSu2.out _ hB3).mono ?_
        rintro e w4 ⟨rfl, hb4⟩
        have hB4 := hB3.trans (hb4.mono hB3.size)
        by_cases h4 : s < tot
        · have h4b : decide (s < tot) = true := decide_eq_true h4
          have hF20 : F = 20 := by rw [← hF4.out]; simp [h4]
          subst hF20
          clear hF4 h4
          go_wp2
          go_ret
          exact ⟨rfl, hB4⟩
        · have h4b : decide (s < tot) = false := decide_eq_false h4
          have hF20 : F = 0 := by rw [← hF4.out]; simp [h4]
          subst hF20
          clear hF4 h4
          go_wp2
          go_ret
          exact ⟨rfl, hB4⟩
    · have hFd : F = d := by rw [← hF2.out, if_pos h2]
      have hdb : (d != 0) = true := by simp [h2]
      subst hFd
      replace h2 := Lib.hid h2
      replace hd := Lib.hid hd
      clear hF2 hVa hSu
      go_enter Try.func29, Try.ntmps29
      go_wp2_with fail
      refine (hSz2.out _ hB).mono ?_
      rintro e w2 ⟨rfl, hb2⟩
      go_wp2
      go_ret
      exact ⟨rfl, hB.trans (hb2.mono hB.size)⟩
  · have hF7 : F = 7 := by rw [← hF.out, if_pos h1]
    have hb : (tot != T) = true := by simp [h1]
    subst hF7
    replace h1 := Lib.hid h1
    clear hF
    go_enter Try.func29, Try.ntmps29
    go_wp2
    go_ret
    exact ⟨rfl, hB⟩

theorem NumSl.any_set {w : World} {u : Value} {xs : List Int} (h : NumSl .i64 w u xs) (p : Addr) (z : Int) : ∃ ys : List Int, ys.length = xs.length ∧ NumSl .i64 (w.setCell p (.int .i64 z)) u ys := by
  rcases h with ⟨⟨a, c, rfl⟩, rfl⟩ | ⟨b, off, c, rfl, hc⟩
  · exact ⟨[], rfl, .nil⟩
  · obtain ⟨ys, h1, h2⟩ := list_of (0 : Int) (R := fun i x => (w.setCell p (.int .i64 z)).cell? ⟨b, off + i, none⟩ = some (.int .i64 x)) xs.length (fun i hi => by
      by_cases e : (⟨b, off + i, none⟩ : Addr) = p
      · subst e
        exact ⟨z, World.cell?_setCell_same _ _ _ (hc i hi)⟩
      · exact ⟨nth xs i, (World.cell?_setCell_other _ _ _ _ (fun h => e h.symm)).trans (hc i hi)⟩)
    exact ⟨ys, h1, .inr ⟨b, off, c, by rw [h1], fun i hi => h2 i (by omega)⟩⟩
/-- behind put: some number of some row has changed, or none -/
structure Tame (base : Nat) (w X : World) : Prop where
  bl : Below base w X
  n : ∀ (u : Value) (xs : List Int), NumSl .i64 w u xs → ∃ ys : List Int, ys.length = xs.length ∧ NumSl .i64 X u ys
  b : ∀ (B : Nat) (cs : Array Value), BoxC w B 32 cs → BoxC X B 32 cs
theorem Tame.of_below {base : Nat} {w X : World} (h : Below base w X) (h2 : Below w.heap.size w X) : Tame base w X := ⟨h, fun _ xs hx => ⟨xs, rfl, hx.mono h2⟩, fun _ _ hb => hb.grown h2⟩
def PutPost (base : Nat) (w : World) (e : Ending) (X : World) : Prop := e = .returned (.tuple #[]) ∧ Tame base w X
set_option maxHeartbeats 2000000 in
theorem put_any (v : Value) (base : Nat) (xs : List Int) (sa sb sc : Int) (w : World) (hv : w.ownsRow base 3 1 v xs.length (xs.map (Value.int .i64))) (hn : xs.length ≤ 1000) (hb : base ≤ w.heap.size) : Calls Try.prog 42 #[v, .agg #[.int .i64 sa, .int .i64 sb, .int .i64 sc]] w (PutPost base w) := by
  have hA := (Below.refl base w).alloc hb (.cells #[.int .i64 sa, .int .i64 sb, .int .i64 sc] 55)
  have hA2 := (Below.refl w.heap.size w).alloc (Nat.le_refl _) (.cells #[.int .i64 sa, .int .i64 sb, .int .i64 sc] 55)
  have b1 := BoxC.new w 55 #[.int .i64 sa, .int .i64 sb, .int .i64 sc]
  have c1 := b1.cell 1 rfl
  have c2 := b1.cell 2 rfl
  rcases Nat.eq_zero_or_pos xs.length with h0 | h0
  · have hsh : ∃ a c, v = .slice a 0 c := by
      rcases hv.2 with ⟨rfl, _⟩ | ⟨g, cap, cur, rfl, _⟩
      · exact ⟨_, _, rfl⟩
      · exact ⟨_, _, by rw [h0]⟩
    obtain ⟨a, c, rfl⟩ := hsh
    clear hv hn h0
    go_enter Try.func42, Try.ntmps42
    go_wp2
    exact bodyPost_ret (v := .tuple #[]) (by simp [results, Try.results42, go_sem]) rfl ⟨rfl, Tame.of_below hA hA2⟩
  · obtain ⟨g, cap, rfl, hg1, hg2⟩ := hv.form h0
    have hnb : decide ((0 : Int) < (xs.length : Int)) = true := decide_eq_true (by omega)
    have hnb2 : decide (0 < xs.length) = true := decide_eq_true (by omega)
    have hu0 : 0 ≤ IntKind.u64.wrap sb := by rw [IntKind.wrap_u64]; omega
    obtain ⟨k, hk, hkn⟩ : ∃ k : Nat, (IntKind.u64.wrap sb).tmod (xs.length : Int) = (k : Int) ∧ k < xs.length := by
      have h1 := Int.tmod_nonneg (xs.length : Int) hu0
      have h2 := Int.tmod_lt_of_pos (IntKind.u64.wrap sb) (show (0 : Int) < (xs.length : Int) by omega)
      exact ⟨((IntKind.u64.wrap sb).tmod (xs.length : Int)).toNat, by omega, by omega⟩
    have hv2 := hv.alloc (.cells #[.int .i64 sa, .int .i64 sb, .int .i64 sc] 55)
    have hkc := hv2.cellAt k (by omega)
    have hkf := hv2.frozenAt k
    rw [show (xs.map (Value.int .i64))[k]? = some (.int .i64 (nth xs k)) by simp [hkn, nth_lt hkn]] at hkc
    have hbx : Hid (∀ (B : Nat) (cs : Array Value), BoxC w B 32 cs → B ≠ g) := Lib.hid (fun B cs h e => by
      have := boxC_not_row h (by decide) hv
      exact this (by rw [e]; rfl))
    generalize xs.length = n at *
    generalize nth xs k = x at hkc
    replace hv := Lib.hid hv
    replace hv2 := Lib.hid hv2
    clear hu0 h0
    go_enter Try.func42, Try.ntmps42
    go_wp2_with fail
    generalize hW : w.alloc (.cells #[.int .i64 sa, .int .i64 sb, .int .i64 sc] 55) = W at hkc hkf c1 c2 hA hA2 ⊢
    replace hW := Lib.hid hW
    go_still_tail 10, (by kernel_rfl)
    change wpList _ _ _ _ _ W.drew
    have hkc2 : W.drew.cell? ⟨g, k, none⟩ = some (.int .i64 x) := hkc
    have hkf2 : W.drew.frozen? ⟨g, k, none⟩ = false := hkf
    clear hkc hkf c1 c2
    generalize hz : IntKind.i64.wrap (x + sc) = z
    replace hz := Lib.hid hz
    go_wp2
    refine bodyPost_ret (v := .tuple #[]) (by simp [results, Try.results42, go_sem]) rfl ⟨rfl, hA.drew.setCell (p := ⟨g, k, none⟩) hg1 _, fun u ys hu => ?_, fun B cs hB => ?_⟩
    · exact ((hu.mono hA2).mono ((Below.refl _ W).drew)).any_set _ _
    · have h1 := hbx.out B cs hB
      rw [← hW.out]
      exact (hB.alloc _).drew.other (p := ⟨g, k, none⟩) h1 _
end Go.Proofs.Ytoendfpfnfeccaa
