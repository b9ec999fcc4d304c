/- The contracts of the model's lack and run. Conditions: a right plant, right demands, a supply of at least -1. -/
import Derived.Test.YtfefocgekmeahaaW26
import Derived.Test.YtfefocgekmeahaaW25
namespace Go.Proofs.Ytfefocgekmeahaa
open Go.RowKit Go.Shelf

theorem ret_lack {a b : Int} {c : Bool} {F : Int × Int × Bool} (h : F = (a, b, c)) : Ending.returned (.tuple #[.int .i64 a, .int .i64 b, .bool c]) = .returned (.tuple #[.int .i64 F.1, .int .i64 F.2.1, .bool F.2.2]) := by rw [h]

set_option maxHeartbeats 4000000 in
theorem lackM_any (u : Value) (ns : List Nd) (sup : Int) (dss : List (List Int)) (n : Nat) (w : World) (hu : StsSl w u dss.length (fun i => runT ns sup dss (i + 1))) (hN : dss.length ≤ 1000) (hn : n ≤ 1000)
    (hl : ∀ i, i < dss.length → (runT ns sup dss (i + 1)).lk.length = n) :
    Calls Try.prog 16 #[u] w fun e w' => e = .returned (.tuple #[.int .i64 (lkS ns sup dss 0).1, .int .i64 (lkS ns sup dss 0).2.1, .bool (lkS ns sup dss 0).2.2]) ∧ w = w' := by
  obtain ⟨au, cu, rfl⟩ := hu.len
  obtain ⟨F, hF⟩ : ∃ F, lkS ns sup dss 0 = F := ⟨_, rfl⟩
  rw [hF]
  replace hF := Lib.hid hF
  replace hl := Lib.hid hl
  go_enter Try.func16, Try.ntmps16
  go_wp2
  go_loop [5] (fun q => ∃ k : Nat, k ≤ dss.length ∧ q = .int .i64 k ∧ Hid (lkS ns sup dss k = F)) (fun q => dss.length - (intOf q).toNat)
  case atStart => exact ⟨0, Nat.zero_le _, rfl, hF⟩
  case round =>
    clear hF
    obtain ⟨k, hk, rfl, hF⟩ := hrel
    by_cases hlt : k < dss.length
    · obtain ⟨b, off, cap, he, _, hc⟩ := hu.at hlt
      cases he
      obtain ⟨u1, u2, u3, -, -, c3, hS⟩ := hc k hlt
      have hlk := hS.lk
      have hlen := hl.out k hlt
      have L1 := @lkS_hit ns sup dss k hlt
      have L2 := @lkS_next ns sup dss k hlt
      have hI : lkI ns sup dss k = idxS posP (runT ns sup dss (k + 1)).lk 0 := rfl
      generalize lkI ns sup dss k = I at L1 L2 hI
      generalize (runT ns sup dss (k + 1)).lk = lk at hlk hlen hI
      subst hlen
      obtain ⟨a3, p3, rfl⟩ := hlk.len
      have hki : (k : Int) < (dss.length : Int) := by omega
      replace L1 := Lib.hid L1
      replace L2 := Lib.hid L2
      replace hI := Lib.hid hI.symm
      clear hc hS
      go_wp2
      go_loop [6] (fun q => ∃ j : Nat, j ≤ lk.length ∧ q = .int .i64 j ∧ Hid (idxS posP lk j = I)) (fun q => lk.length - (intOf q).toNat)
      case atStart => exact ⟨0, Nat.zero_le _, rfl, hI⟩
      case round =>
        clear hI
        obtain ⟨j, hj, rfl, hI⟩ := hrel
        by_cases hlj : j < lk.length
        · obtain ⟨b3, o3, x3, e3, hc3⟩ := hlk.at hlj
          cases e3
          have cj := hc3 j hlj
          clear hc3
          have hji : (j : Int) < (lk.length : Int) := by omega
          have i1 := @idxS_hit posP lk j hlj
          have i2 := @idxS_next posP lk j hlj
          unfold posP at i1 i2
          generalize nth lk j = z at cj i1 i2
          by_cases hz : 0 < z
          · have h1 := (i1 (decide_eq_true hz)).symm.trans hI.out
            have h2 := hF.out.symm.trans (L1.out (by omega))
            rw [← h1] at h2
            replace h2 := Lib.hid h2
            clear i1 i2 L1 L2 hI hF h1
            go_wp2
            exact bodyPost_ret (v := .tuple #[.int .i64 k, .int .i64 j, .bool true]) (by simp [results, Try.results16, go_sem]) rfl ⟨ret_lack h2.out, rfl⟩
          · have h1 := Lib.hid ((i2 (decide_eq_false hz)).symm.trans hI.out)
            clear i1 i2 hI
            go_wp2
            go_round
            case rel => exact ⟨j + 1, by omega, by go_num, h1⟩
            case measure => simp [intOf]; omega
        · obtain rfl : j = lk.length := by omega
          have h1 := hI.out
          rw [idxS_end (Nat.le_refl _)] at h1
          have h2 := Lib.hid ((L2.out (by omega)).symm.trans hF.out)
          clear L1 L2 hI h1 hF
          go_wp2
          go_round
          case rel => exact ⟨k + 1, by omega, by go_num, h2⟩
          case measure => simp [intOf]; omega
    · obtain rfl : k = dss.length := by omega
      have h2 := hF.out.symm.trans (lkS_end (Nat.le_refl _))
      replace h2 := Lib.hid h2
      clear hF
      go_wp2
      exact bodyPost_ret (v := .tuple #[.int .i64 0, .int .i64 0, .bool false]) (by simp [results, Try.results16, go_sem]) rfl ⟨ret_lack h2.out, rfl⟩

theorem NumSl.lenW {K : IntKind} {w : World} {v : Value} {xs : List Int} {n : Nat} (h : NumSl K w v xs) (hl : xs.length = n) : ∃ a cap, v = .slice a n cap := by subst hl; exact h.len
/-- all that was gathered, in blocks of numbers -/
def AllT (ns : List Nd) (sup : Int) (dss : List (List Int)) (pre : List Yd) (W : World) : Prop :=
  ∀ j x, pre[j]? = some x → NumT W (.slice x.a1 ns.length x.c1) (runT ns sup dss (j + 1)).lv ∧ NumT W (.slice x.a2 ns.length x.c2) (runT ns sup dss (j + 1)).tk ∧ NumT W (.slice x.a3 ns.length x.c3) (runT ns sup dss (j + 1)).lk
theorem NumT.kept {W W' : World} {v u : Value} {xs : List Int} {base size k : Nat} {cs : List Value} (h : NumT W v xs) (hr : W.ownsRow base 44 size u k cs) (hg : W.grownBy W' u.ownBlock) : NumT W' v xs := by
  refine ⟨h.1.kept hg (fun b hb hn e => ?_), fun b hb hn => ?_⟩
  · obtain ⟨cs', hB⟩ := h.2 b hb hn
    exact boxC_not_row hB (by decide) hr e.symm
  · obtain ⟨cs', hB⟩ := h.2 b hb hn
    exact ⟨cs', hB.kept hg (boxC_not_row hB (by decide) hr)⟩
theorem AllT.mono {ns : List Nd} {sup : Int} {dss : List (List Int)} {pre : List Yd} {W W' : World} (h : AllT ns sup dss pre W) (hb : Below W.heap.size W W') : AllT ns sup dss pre W' := fun j x hx => by
  obtain ⟨h1, h2, h3⟩ := h j x hx
  exact ⟨h1.mono hb, h2.mono hb, h3.mono hb⟩
theorem AllT.kept {ns : List Nd} {sup : Int} {dss : List (List Int)} {pre : List Yd} {W W' : World} {u : Value} {base size k : Nat} {cs : List Value} (h : AllT ns sup dss pre W) (hr : W.ownsRow base 44 size u k cs) (hg : W.grownBy W' u.ownBlock) : AllT ns sup dss pre W' := fun j x hx => by
  obtain ⟨h1, h2, h3⟩ := h j x hx
  exact ⟨h1.kept hr hg, h2.kept hr hg, h3.kept hr hg⟩
theorem AllT.snoc {ns : List Nd} {sup : Int} {dss : List (List Int)} {pre : List Yd} {W : World} {x : Yd} {k : Nat} (h : AllT ns sup dss pre W) (hk : pre.length = k) (h1 : NumT W (.slice x.a1 ns.length x.c1) (runT ns sup dss (k + 1)).lv) (h2 : NumT W (.slice x.a2 ns.length x.c2) (runT ns sup dss (k + 1)).tk)
    (h3 : NumT W (.slice x.a3 ns.length x.c3) (runT ns sup dss (k + 1)).lk) : AllT ns sup dss (pre ++ [x]) W := fun j y hy => by
  subst hk
  rcases Nat.lt_trichotomy j pre.length with hj | hj | hj
  · rw [List.getElem?_append_left hj] at hy
    exact h j y hy
  · subst hj
    simp at hy
    subst hy
    exact ⟨h1, h2, h3⟩
  · rw [List.getElem?_eq_none (by simp; omega)] at hy
    cases hy
theorem AllT.sts {ns : List Nd} {sup : Int} {dss : List (List Int)} {pre : List Yd} {W : World} {u : Value} {base k : Nat} (h : AllT ns sup dss pre W) (hr : W.ownsRow base 44 3 u k (preC ns.length pre)) (hk : pre.length = k) (hd : k = dss.length) : StsSl W u dss.length (fun i => runT ns sup dss (i + 1)) := by
  subst hd
  have hr' := hr
  obtain ⟨_, ⟨rfl, h0⟩ | ⟨g, cap, cur, rfl, _, h4, _⟩⟩ := hr
  · exact .inl ⟨h0, none, 0, rfl⟩
  · refine .inr ⟨g, 0, cap, rfl, heap_lt h4, fun i hi => ?_⟩
    obtain ⟨x, hx⟩ : ∃ x, pre[i]? = some x := ⟨pre[i], List.getElem?_eq_getElem (by omega)⟩
    obtain ⟨h1, h2, h3⟩ := h i x hx
    refine ⟨_, _, _, ?_, ?_, ?_, ⟨h1.1, h2.1, h3.1⟩⟩
    · have := hr'.cellAt (i * 3 + 0) (by omega)
      rw [preC_at ns.length pre i 0 x hx (by decide)] at this
      simpa [ydCells] using this
    · have := hr'.cellAt (i * 3 + 1) (by omega)
      rw [preC_at ns.length pre i 1 x hx (by decide)] at this
      simpa [ydCells] using this
    · have := hr'.cellAt (i * 3 + 2) (by omega)
      rw [preC_at ns.length pre i 2 x hx (by decide)] at this
      simpa [ydCells] using this
end Go.Proofs.Ytfefocgekmeahaa
