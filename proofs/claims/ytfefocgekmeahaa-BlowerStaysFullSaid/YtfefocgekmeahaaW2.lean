/- The contracts of the iterators over the children of a node, and over the nodes from the last one on. Conditions: at most 1000 nodes. -/
import Derived.Test.YtfefocgekmeahaaW1
import Derived.Test.YtfefocgekmeahaaWide
namespace Go.Proofs.Ytfefocgekmeahaa
open Go.RowKit Go.Shelf
attribute [local go_sem] Oper.semAt_some

theorem fp_none {m : Nat → Prop} {W : World} {k : Nat} : fpB m none W k ↔ m k := by
  unfold fpB
  constructor
  · rintro (h | ⟨b, v, h, _⟩)
    · exact h
    · cases h
  · exact .inl

/-- node k is a child of node i -/
def isKid (ns : List Nd) (i : Int) (k : Fin ns.length) : Bool := (nd ns k.val).p == i
def kids (ns : List Nd) (i : Int) : List (Fin ns.length) := (List.finRange ns.length).filter (isKid ns i)
def kidsT (ns : List Nd) (i : Int) (k : Nat) : List (Fin ns.length) := ((List.finRange ns.length).take k).filter (isKid ns i)
theorem kidsT_len (ns : List Nd) (i : Int) (k : Nat) : (kidsT ns i k).length ≤ k := by
  unfold kidsT
  have := List.length_filter_le (isKid ns i) ((List.finRange ns.length).take k)
  simp at this
  omega
theorem kidsT_yes {ns : List Nd} {i : Int} {k : Nat} (h : k < ns.length) (hp : (nd ns k).p = i) : kidsT ns i (k + 1) = kidsT ns i k ++ [⟨k, h⟩] := by
  unfold kidsT
  rw [take_fin h, List.filter_append]
  simp [isKid, hp]
theorem kidsT_no {ns : List Nd} {i : Int} {k : Nat} (h : k < ns.length) (hp : (nd ns k).p ≠ i) : kidsT ns i (k + 1) = kidsT ns i k := by
  unfold kidsT
  rw [take_fin h, List.filter_append]
  simp [isKid, hp]
theorem kidsT_all {ns : List Nd} {i : Int} : kidsT ns i ns.length = kids ns i := by
  unfold kidsT kids
  rw [List.take_of_length_le (by simp)]
theorem kidsT_zero {ns : List Nd} {i : Int} : kidsT ns i 0 = [] := rfl

set_option maxHeartbeats 400000 in
theorem children_any (sup i : Int) (v : Value) (a : Option Addr) (len cap : Nat) (hv : v = .slice a len cap) (w : World) :
    Calls Try.prog 55 #[plV sup v, .int .i64 i] w fun e w' => e = .returned (.func (.func 58) #[] #[.pointer (some ⟨w.heap.size, 0, none⟩), .pointer (some ⟨w.heap.size + 1, 0, none⟩)]) ∧
      (w.alloc (.cells #[.int .i64 sup, v] 24)).alloc (.cells #[.int .i64 i] 3) = w' := by
  subst hv
  have hmf : ∀ (fn : Fn) (first cap : Array Value) (w : World), (Instr.makeFunc fn first cap).run Try.prog w = .ok (.func fn first cap) w := fun _ _ _ _ => rfl
  go_enter Try.func55, Try.ntmps55
  go_wp2
  go_ret
  exact ⟨rfl, rfl⟩

set_option maxHeartbeats 400000 in
theorem back_any (v : Value) (a : Option Addr) (len cap : Nat) (hv : v = .slice a len cap) (w : World) :
    Calls Try.prog 53 #[v] w fun e w' => e = .returned (.func (.func 57) #[] #[.pointer (some ⟨w.heap.size, 0, none⟩)]) ∧ w.alloc (.cells #[v] 22) = w' := by
  subst hv
  have hmf : ∀ (fn : Fn) (first cap : Array Value) (w : World), (Instr.makeFunc fn first cap).run Try.prog w = .ok (.func fn first cap) w := fun _ _ _ _ => rfl
  go_enter Try.func53, Try.ntmps53
  go_wp2
  go_ret
  exact ⟨rfl, rfl⟩

set_option maxRecDepth 100000 in
set_option maxHeartbeats 2000000 in
theorem children_stops (n : Nat) (hn : 1 ≤ n) (m : Nat → Prop) (sup i : Int) (v : Value) (ns : List Nd) (hlen : ns.length ≤ 1000) (w : World) (Bp Bi : Nat)
    (hd : BoxC w Bp 24 #[.int .i64 sup, v]) (hi : BoxC w Bi 3 #[.int .i64 i]) (hv : NdSl w v ns) (hvn : ∀ b, v.ownBlock = some b → 0 < ns.length → ¬ m b) (hmp : ¬ m Bp) (hmi : ¬ m Bi) :
    SeqStopsK Fence.wide n Try.prog 58 #[.pointer (some ⟨Bp, 0, none⟩), .pointer (some ⟨Bi, 0, none⟩)] (fun k : Fin ns.length => #[.int .i64 k.val]) (Keeps m none) (fun ys => ys = kids ns i) (fun _ => True) ns.length w := by
  intro j J Jx W hW hJ hJx hY h0
  have hdW := hd.grown hW
  have hiW := hi.grown hW
  have hvW := hv.mono hW
  clear hd hi hv
  obtain ⟨a, cap, rfl⟩ := hvW.len
  refine callsIn_of_wp Try.func58 rfl trivial ?_ rfl
  simp only [Try.ntmps58, List.size_toArray, List.length_cons, List.length_nil, Nat.reduceAdd, Nat.reduceSub, Array.replicate_succ, Array.replicate_zero, List.push_toArray, List.append_toArray, List.nil_append, List.cons_append]
  have cd := hdW.cell 1 rfl
  gi_wp2
  clear cd
  gi_loopw [9] (fun q wr => ∃ k : Nat, k ≤ ns.length ∧ q = .int .i64 k ∧ J (kidsT ns i k) wr ∧ Keeps m none W wr) (fun q _ => ns.length - (intOf q).toNat)
  case atStart => exact ⟨0, Nat.zero_le _, rfl, h0, Keeps.refl _ _ _⟩
  case round =>
    obtain ⟨k, hk, rfl, hJs, hK⟩ := hrel
    by_cases hlt : k < ns.length
    · have dr := hdW.keeps hK (fun h => hmp (fp_none.1 h))
      have ir := hiW.keeps hK (fun h => hmi (fp_none.1 h))
      have vr := hvW.other hK (fun b hb h0 h => hvn b hb h0 (fp_none.1 h))
      obtain ⟨b, off, cap', he, hc⟩ := vr.at hlt
      cases he
      obtain ⟨c1, c2, c3, c4⟩ := hc k hlt
      have hki : (k : Int) < (ns.length : Int) := by omega
      have hbm := (Below.refl wr.heap.size wr).alloc (Nat.le_refl _) (.cells (ndC (nd ns k)) 42)
      have hJm := abides_below hJ hJs hbm
      have hKm := hK.trans (Keeps.grown (m := m) (B := none) hbm (by simp))
      have ci := (ir.grown hbm).cell 0 rfl
      have Y := @kidsT_yes ns i k hlt
      have N := @kidsT_no ns i k hlt
      have hlk := kidsT_len ns i k
      clear hc vr dr ir
      generalize nd ns k = x at c1 c2 c3 c4 hbm hJm hKm ci Y N
      obtain ⟨p, ms, c, l⟩ := x
      simp only at c1 c2 c3 c4 hbm hJm hKm ci Y N
      by_cases hp : p = i
      · have hpb : ((p : Int) == i) = true := by simpa using hp
        replace Y := Lib.hid (Y hp)
        replace hp := Lib.hid hp
        clear N hJs hK
        gi_wp2_with fail
        obtain ⟨fn, tmps, assign, body, hy, hR⟩ := hY _ ⟨k, hlt⟩ _ hJm (by omega)
        rw [hy]
        gi_wp2
        refine hR.mono ?_
        rintro e W5 (⟨rfl, hJ5, hk5⟩ | ⟨rfl, hJx5⟩)
        · have hKK := hKm.trans hk5
          rw [← Y.out] at hJ5
          clear hy hR hJm hKm hk5 hbm ci c1 c2 c3 c4
          gi_wp2
          go_roundw
          case rel => exact ⟨k + 1, by omega, by go_num, hJ5, hKK⟩
          case measure => simp [intOf]; omega
        · gi_wp2
          refine bodyPost_ret (results_none rfl _ _ _) rfl ?_
          exact ⟨⟨_, rfl⟩, .inr ⟨_, trivial, hJx5⟩⟩
      · have hpb : ((p : Int) == i) = false := by simpa using hp
        replace N := Lib.hid (N hp)
        rw [← N.out] at hJm
        clear Y hJs hK hp
        gi_wp2_with fail
        refine ⟨by simp, ?_⟩
        gi_wp2
        go_roundw
        case rel => exact ⟨k + 1, by omega, by go_num, hJm, hKm⟩
        case measure => simp [intOf]; omega
    · obtain rfl : k = ns.length := by omega
      gi_wp2
      go_end0
      exact ⟨⟨_, rfl⟩, .inl ⟨_, rfl, by rwa [kidsT_all] at hJs⟩⟩

/-- the nodes from the last one on, the first r -/
def backT (n r : Nat) : List (Fin n) := (List.finRange n).reverse.take r
theorem backT_succ {n k : Nat} (h : k < n) : backT n (n - k) = backT n (n - (k + 1)) ++ [⟨k, h⟩] := by
  unfold backT
  have e : n - k = (n - (k + 1)) + 1 := by omega
  rw [e, List.take_succ_eq_append_getElem (by simp; omega)]
  simp [List.getElem_reverse]
  omega
theorem backT_len {n r : Nat} (h : r ≤ n) : (backT n r).length = r := by simp [backT]; omega

set_option maxRecDepth 100000 in
set_option maxHeartbeats 2000000 in
theorem back_stops (n : Nat) (hn : 1 ≤ n) (m : Nat → Prop) (v : Value) (ns : List Nd) (hlen : ns.length ≤ 1000) (w : World) (Bs : Nat)
    (hd : BoxC w Bs 22 #[v]) (hv : NdSl w v ns) (hvn : ∀ b, v.ownBlock = some b → 0 < ns.length → ¬ m b) (hms : ¬ m Bs) :
    SeqStopsK Fence.wide n Try.prog 57 #[.pointer (some ⟨Bs, 0, none⟩)] (fun k : Fin ns.length => #[.int .i64 k.val, ndV (nd ns k.val)]) (Keeps m none) (fun ys => ys = backT ns.length ns.length) (fun _ => True) ns.length w := by
  intro j J Jx W hW hJ hJx hY h0
  have hdW := hd.grown hW
  have hvW := hv.mono hW
  clear hd hv
  obtain ⟨a, cap, rfl⟩ := hvW.len
  refine callsIn_of_wp Try.func57 rfl trivial ?_ rfl
  simp only [Try.ntmps57, List.size_toArray, List.length_cons, List.length_nil, Nat.reduceAdd, Nat.reduceSub, Array.replicate_succ, Array.replicate_zero, List.push_toArray, List.append_toArray, List.nil_append, List.cons_append]
  have cd := hdW.cell 0 rfl
  gi_wp2
  clear cd
  gi_loopw [3] (fun q wr => ∃ z : Int, -1 ≤ z ∧ z < ns.length ∧ q = .int .i64 z ∧ J (backT ns.length (ns.length - (z + 1).toNat)) wr ∧ Keeps m none W wr) (fun q _ => (intOf q + 1).toNat)
  case atStart => exact ⟨(ns.length : Int) - 1, by omega, by omega, rfl, by rw [show ns.length - ((ns.length : Int) - 1 + 1).toNat = 0 by omega]; exact h0, Keeps.refl _ _ _⟩
  case round =>
    obtain ⟨z, hz0, hz1, rfl, hJs, hK⟩ := hrel
    by_cases hz : 0 ≤ z
    · obtain ⟨k, rfl⟩ : ∃ k : Nat, z = k := ⟨z.toNat, by omega⟩
      have hlt : k < ns.length := by omega
      have dr := hdW.keeps hK (fun h => hms (fp_none.1 h))
      have vr := hvW.other hK (fun b hb h0 h => hvn b hb h0 (fp_none.1 h))
      obtain ⟨b, off, cap', he, hc⟩ := vr.at hlt
      cases he
      obtain ⟨c1, c2, c3, c4⟩ := hc k hlt
      have hki : (k : Int) < (ns.length : Int) := by omega
      have cd := dr.cell 0 rfl
      have Y := Lib.hid (@backT_succ ns.length k hlt)
      rw [show ((k : Int) + 1).toNat = k + 1 by omega] at hJs
      clear hc vr dr hz0 hz1
      obtain ⟨x, hx⟩ : ∃ x, nd ns k = x := ⟨_, rfl⟩
      rw [hx] at c1 c2 c3 c4
      replace hx := Lib.hid hx
      obtain ⟨p, ms, c, l⟩ := x
      simp only at c1 c2 c3 c4
      gi_wp2_with fail
      obtain ⟨fn, tmps, assign, body, hy, hR⟩ := hY _ ⟨k, hlt⟩ _ hJs (by rw [backT_len (by omega)]; omega)
      simp only [ndV, hx.out] at hy
      rw [hy]
      gi_wp2
      refine hR.mono ?_
      rintro e W5 (⟨rfl, hJ5, hk5⟩ | ⟨rfl, hJx5⟩)
      · have hKK := hK.trans hk5
        rw [← Y.out] at hJ5
        clear hy hR hJs hK hk5 cd c1 c2 c3 c4
        gi_wp2
        go_roundw
        case rel => exact ⟨(k : Int) - 1, by omega, by omega, rfl, by rw [show ((k : Int) - 1 + 1).toNat = k by omega]; exact hJ5, hKK⟩
        case measure => simp [intOf]
      · gi_wp2
        refine bodyPost_ret (results_none rfl _ _ _) rfl ?_
        exact ⟨⟨_, rfl⟩, .inr ⟨_, trivial, hJx5⟩⟩
    · obtain rfl : z = -1 := by omega
      gi_wp2
      go_end0
      exact ⟨⟨_, rfl⟩, .inl hJs⟩
end Go.Proofs.Ytfefocgekmeahaa
