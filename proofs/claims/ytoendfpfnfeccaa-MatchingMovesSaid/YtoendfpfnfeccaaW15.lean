/- The contract of the model's Least. Conditions: right costs. -/
import Derived.Test.YtoendfpfnfeccaaW14
namespace Go.Proofs.Ytoendfpfnfeccaa
open Go.RowKit Go.Shelf

theorem sumR_bd {f : Nat → Int} {B : Int} (h : ∀ r, -B ≤ f r ∧ f r ≤ B) : ∀ (j row : Nat), -(j * B) ≤ sumR f j row ∧ sumR f j row ≤ j * B
  | 0, _ => by simp [sumR]
  | j + 1, row => by
    have h1 := sumR_bd h j (row + 1)
    have h2 := h row
    have e : ((j + 1 : Nat) : Int) * B = j * B + B := by rw [Int.natCast_add, Int.add_mul]; simp
    rw [sumR_succ, e]
    omega
theorem least_bd {m : Nat} {c : Nat → Nat → Int} {skip : Option Int} (hc : ∀ r k, -1000000000 ≤ c r k ∧ c r k ≤ 1000000000) (hs : -1000000000 ≤ skip.getD 0 ∧ skip.getD 0 ≤ 1000000000) {j row : Nat} {us : List Bool} {b : Int} (hl : us.length = m)
    (h : leastF m c skip j row us = some b) : -(j * 1000000000) ≤ b ∧ b ≤ j * 1000000000 := by
  obtain ⟨t, _, rfl⟩ := least_lower j row us hl h
  refine sumR_bd (fun r => ?_) j row
  unfold cst
  split
  · exact hc _ _
  · exact hs
def optV (o : Option Int) : Value := .tuple #[.int .i64 (o.getD 0), .bool o.isSome]
def LeastPost (I : World → Prop) (B g m : Nat) (us : List Bool) (o : Option Int) (e : Ending) (X : World) : Prop := e = .returned (optV o) ∧ RowB B g (rowS g m) m us X ∧ I X
theorem set_back {us : List Bool} {K : Nat} (h : nthb us K = false) (hK : K < us.length) : (us.set K true).set K false = us := by
  rw [List.set_set]
  apply List.ext_getElem (by simp)
  intro i h1 h2
  rw [List.getElem_set]
  split
  · rename_i e
    subst e
    rw [← nthb_lt hK, h]
  · rfl
theorem tryL_used {us : List Bool} {G : Nat → Option Int} {cr : Nat → Int} {K : Nat} (h : nthb us K = true) : tryL us G cr (K + 1) = tryL us G cr K := by
  show (if us[K]?.getD false then _ else _) = _
  rw [if_pos (by exact h)]
theorem tryL_new {us : List Bool} {G : Nat → Option Int} {cr : Nat → Int} {K : Nat} (h : nthb us K = false) : tryL us G cr (K + 1) = better (tryL us G cr K) (G K) (cr K) := by
  show (if us[K]?.getD false then _ else _) = _
  rw [if_neg (by show ¬ nthb us K = true; simp [h])]
theorem better_none {acc : Option Int} {a : Int} : better acc none a = acc := rfl
theorem better_first {n a : Int} : better none (some n) a = some (n + a) := rfl
theorem better_lt {b n a : Int} (h : n + a < b) : better (some b) (some n) a = some (n + a) := by simp [better, h]
theorem better_ge {b n a : Int} (h : ¬ n + a < b) : better (some b) (some n) a = some b := by simp [better, h]

set_option maxRecDepth 100000 in
set_option maxHeartbeats 4000000 in
theorem least_any (I : World → Prop) (B : Nat) (av : Option Addr) (cv : Nat) (sk : Value) (css : List (List Int)) (skip : Option Int) (n m g : Nat) (hv : ∀ W, I W → SlSl W (.slice av n cv) css) (hsk : ∀ W, I W → NumSl .i64 W sk skip.toList) (hI : 0 < m → ∀ W i b, I W → I (W.setCell ⟨g, i, none⟩ (.bool b))) (hok : CsOk css) (hn : css.length = n) (hm : colN css = m) (hs : -1000000000 ≤ skip.getD 0 ∧ skip.getD 0 ≤ 1000000000) :
    ∀ (j row : Nat) (us : List Bool) (W : World), row + j = n → us.length = m → RowB B g (rowS g m) m us W → I W → Calls Try.prog 25 #[.slice av n cv, .int .i64 (row : Int), rowS g m, sk] W (LeastPost I B g m us (leastF m (cF css) skip j row us)) := by
  have hv0 := Lib.hid hv
  have hsk0 := Lib.hid hsk
  replace hI := Lib.hid hI
  have hn60 := hok.n
  have hm120 := hok.m
  rw [hn] at hn60
  rw [hm] at hm120
  have hrow := Lib.hid (fun k (h : k < n) => (hok.row k (by omega)).trans hm)
  have hval : Hid (∀ r k, -1000000000 ≤ cF css r k ∧ cF css r k ≤ 1000000000) := Lib.hid (fun r k => hok.val r k)
  have hbd := Lib.hid (fun (j row : Nat) (us : List Bool) (b : Int) => least_bd (m := m) (c := cF css) (skip := skip) (j := j) (row := row) (us := us) (b := b) (fun r k => hok.val r k) hs)
  replace hn := Lib.hid hn
  replace hm := Lib.hid hm
  replace hs := Lib.hid hs
  clear hv hsk hok
  intro j
  induction j with
  | zero =>
    intro row us W hrj hul hR hB
    obtain ⟨ask, csk, rfl⟩ := (hsk0.out W hB).len
    obtain rfl : row = n := by omega
    have e0 : leastF m (cF css) skip 0 row us = some 0 := rfl
    rw [e0]
    replace hul := Lib.hid hul
    clear hrj
    go_enter Try.func25, Try.ntmps25
    go_wp2
    go_ret2
    exact ⟨rfl, hR, hB⟩
  | succ j ih =>
    intro row us W hrj hul hR hB
    obtain ⟨ask, csk, rfl⟩ := (hsk0.out W hB).len
    obtain ⟨o, ho⟩ : ∃ o, leastF m (cF css) skip (j + 1) row us = o := ⟨_, rfl⟩
    rw [ho]
    have hrn : row < n := by omega
    have hne : ((row : Int) == (n : Int)) = false := by rw [beq_eq_false_iff_ne]; omega
    have hih := Lib.hid (fun us W (h1 : us.length = m) h2 h3 => ih (row + 1) us W (by omega) h1 h2 h3)
    have hbd2 := Lib.hid (fun us b (h1 : us.length = m) h => hbd.out j (row + 1) us b h1 h)
    have hj60 : j ≤ 60 := by omega
    replace ho := Lib.hid ho
    replace hul := Lib.hid hul
    clear ih hrj
    go_enter Try.func25, Try.ntmps25
    go_wp2
    go_loopw [10, 11, 12] (fun b f i wr => ∃ (K : Nat) (acc : Option Int), K ≤ m ∧ i = .int .i64 (K : Int) ∧ b = .int .i64 (acc.getD 0) ∧ f = .bool acc.isSome ∧ Hid (tryL us (fun k => leastF m (cF css) skip j (row + 1) (us.set k true)) (cF css row) K = acc) ∧ RowB B g (rowS g m) m us wr ∧ I wr) (fun _ _ i _ => m - (intOf i).toNat)
    case atStart => exact ⟨0, none, Nat.zero_le _, rfl, rfl, rfl, Lib.hid rfl, hR, hB⟩
    case round =>
      clear hR hB
      obtain ⟨K, acc, hK, rfl, rfl, rfl, hT, hR, hB⟩ := hrel
      obtain ⟨b3, o3, c3', he3, _, hc3⟩ := (hv0.out wr hB).atN hn.out hrn
      cases he3
      obtain ⟨x, x3, hx⟩ := hc3 row hrn
      obtain ⟨a4, c4', rfl⟩ := hx.lenV (hrow.out row hrn)
      clear hc3 hx
      by_cases hlt : K < m
      · have hkb : decide ((K : Int) < (m : Int)) = true := decide_eq_true (by omega)
        have hdc := hR.cell hlt
        by_cases hu : nthb us K = true
        · rw [hu] at hdc
          have hst := Lib.hid ((tryL_used hu).trans hT.out)
          clear hT hu
          go_wp2
          go_roundw
          case rel => exact ⟨K + 1, acc, by omega, by go_num, rfl, rfl, hst, hR, hB⟩
          case measure => simp [intOf]; omega
        · rw [Bool.not_eq_true] at hu
          rw [hu] at hdc
          have hdf := hR.frozen (by omega) K
          have hR1 := hR.set K true
          have hB1 := hI.out (by omega) wr K true hB
          have hlen : (us.set K true).length = m := by rw [List.length_set]; exact hul.out
          have hcall := hih.out (us.set K true) _ hlen hR1 hB1
          obtain ⟨y, hy⟩ : ∃ y, leastF m (cF css) skip j (row + 1) (us.set K true) = y := ⟨_, rfl⟩
          rw [hy] at hcall
          have hyb := fun nn (h : y = some nn) => hbd2.out (us.set K true) nn hlen (hy.trans h)
          have hst : Hid (tryL us (fun k => leastF m (cF css) skip j (row + 1) (us.set k true)) (cF css row) (K + 1) = better acc y (cF css row K)) := Lib.hid (by
            rw [tryL_new hu, hT.out, hy])
          have hback := set_back hu (by rw [hul.out]; exact hlt)
          have hclt := hval.out row K
          replace hcall := Lib.hid hcall
          replace hback := Lib.hid hback
          replace hyb := Lib.hid hyb
          replace hu := Lib.hid hu
          clear hT hR1 hB1 hlen hy
          go_wp2_with fail
          refine hcall.out.mono ?_
          rintro e w1 ⟨rfl, hR2, hB2⟩
          have f2 := hR2.frozen (by omega) K
          have f1 := hR2.cell hlt
          have hR3 := hR2.set K false
          rw [hback.out] at hR3
          have hB3 := hI.out (by omega) w1 K false hB2
          obtain ⟨b3, o3, c3', he3, _, hc3⟩ := (hv0.out _ hB3).atN hn.out hrn
          cases he3
          obtain ⟨x, x5, hx⟩ := hc3 row hrn
          obtain ⟨b4, o4, c4'', rfl, hc4⟩ := hx.atN (hrow.out row hrn) (k := K) hlt
          clear hc3 hx
          have x6 : (w1.setCell ⟨g, K, none⟩ (.bool false)).cell? ⟨b4, o4 + K, none⟩ = some (.int .i64 (cF css row K)) := hc4 K hlt
          generalize cF css row K = z at hst hclt x6
          clear hR hB hdc hdf hcall hR2 hB2 hc4 hback x3
          cases y with
          | none =>
            rw [better_none] at hst
            unfold optV
            simp only [Option.getD_none, Option.isSome_none]
            clear hyb
            go_wp2
            go_roundw
            case rel => exact ⟨K + 1, acc, by omega, by go_num, rfl, rfl, hst, hR3, hB3⟩
            case measure => simp [intOf]; omega
          | some nn =>
            have hnb := hyb.out nn rfl
            unfold optV
            simp only [Option.getD_some, Option.isSome_some]
            have es : IntKind.i64.wrap (nn + z) = nn + z := IntWalk.i64_in _ (by omega)
            clear hyb
            cases acc with
            | none =>
              rw [better_first] at hst
              simp only [Option.getD_none, Option.isSome_none]
              go_wp2
              go_roundw
              case rel => exact ⟨K + 1, some (nn + z), by omega, by go_num, rfl, rfl, hst, hR3, hB3⟩
              case measure => simp [intOf]; omega
            | some b =>
              simp only [Option.getD_some, Option.isSome_some]
              by_cases hlb : nn + z < b
              · have hlbb : decide (nn + z < b) = true := decide_eq_true hlb
                rw [better_lt hlb] at hst
                clear hlb
                go_wp2
                go_roundw
                case rel => exact ⟨K + 1, some (nn + z), by omega, by go_num, rfl, rfl, hst, hR3, hB3⟩
                case measure => simp [intOf]; omega
              · have hlbb : decide (nn + z < b) = false := decide_eq_false hlb
                rw [better_ge hlb] at hst
                clear hlb
                go_wp2
                go_roundw
                case rel => exact ⟨K + 1, some b, by omega, by go_num, rfl, rfl, hst, hR3, hB3⟩
                case measure => simp [intOf]; omega
      · obtain rfl : K = m := by omega
        have hoe : Hid (tryS skip acc (leastF K (cF css) skip j (row + 1) us) = o) := Lib.hid (by
          rw [← ho.out, ← hT.out]; rfl)
        clear ho hT
        have hsk1 := hsk0.out wr hB
        cases skip with
        | none =>
          have ho2 : acc = o := hoe.out
          subst ho2
          simp only [Option.toList_none, List.length_nil]
          clear hoe hsk1
          go_wp2
          go_ret2
          exact ⟨rfl, hR, hB⟩
        | some s =>
          have hsb : -1000000000 ≤ s ∧ s ≤ 1000000000 := hs.out
          obtain ⟨y, hy⟩ : ∃ y, leastF K (cF css) (some s) j (row + 1) us = y := ⟨_, rfl⟩
          have ho2 : better acc y s = o := by rw [← hy]; exact hoe.out
          have hcall := hih.out us wr hul.out hR hB
          rw [hy] at hcall
          have hyb := Lib.hid (fun nn (h : y = some nn) => hbd2.out us nn hul.out (hy.trans h))
          simp only [Option.toList_some, List.length_singleton] at hsk1 ⊢
          replace hcall := Lib.hid hcall
          replace ho2 := Lib.hid ho2
          obtain ⟨ask', csk', he⟩ := hsk1.len
          simp only [List.length_singleton] at he
          cases he
          clear hoe hsk1 hy
          go_wp2_with fail
          refine hcall.out.mono ?_
          rintro e w1 ⟨rfl, hR2, hB2⟩
          have hsk2 : NumSl .i64 w1 _ [s] := hsk0.out w1 hB2
          obtain ⟨b5, o5, c5, he5, hc5⟩ := hsk2.atN rfl (k := 0) (by simp)
          cases he5
          have x7 : w1.cell? ⟨b5, o5, none⟩ = some (.int .i64 s) := hc5 0 (by simp)
          clear hcall hR hB hc5
          cases y with
          | none =>
            have ho3 : acc = o := ho2.out
            subst ho3
            unfold optV
            simp only [Option.getD_none, Option.isSome_none]
            clear ho2 hyb
            go_wp2
            go_ret2
            exact ⟨rfl, hR2, hB2⟩
          | some nn =>
            have hnb := hyb.out nn rfl
            unfold optV
            simp only [Option.getD_some, Option.isSome_some]
            have es : IntKind.i64.wrap (nn + s) = nn + s := IntWalk.i64_in _ (by omega)
            clear hyb
            cases acc with
            | none =>
              have ho3 : some (nn + s) = o := ho2.out
              subst ho3
              simp only [Option.getD_none, Option.isSome_none]
              clear ho2
              go_wp2
              go_ret2
              exact ⟨rfl, hR2, hB2⟩
            | some b =>
              simp only [Option.getD_some, Option.isSome_some]
              by_cases hlb : nn + s < b
              · have hlbb : decide (nn + s < b) = true := decide_eq_true hlb
                have ho3 := (better_lt hlb).symm.trans ho2.out
                subst ho3
                clear hlb ho2
                go_wp2
                go_ret2
                exact ⟨rfl, hR2, hB2⟩
              · have hlbb : decide (nn + s < b) = false := decide_eq_false hlb
                have ho3 := (better_ge hlb).symm.trans ho2.out
                subst ho3
                clear hlb ho2
                go_wp2
                go_ret2
                exact ⟨rfl, hR2, hB2⟩
end Go.Proofs.Ytoendfpfnfeccaa
