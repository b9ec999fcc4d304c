/- Contracts of slices.IndexFunc and slices.ContainsFunc over numbers. Conditions: the list has at most 2^62 elements. -/
import Derived.Test.YtgnamahdchefnaaRows
import Derived.Test.YtgnamahdchefnaaScan
namespace Go.Proofs.Ytgnamahdchefnaa
open Go.RowKit

/-- the first index from k on that has a property, or -1 -/
def idxS (p : Int → Bool) (xs : List Int) (k : Nat) : Int := scan xs.length (fun k (_ : Unit) => if p (nth xs k) then .inl (k : Int) else .inr ()) (fun _ => -1) k ()
theorem idxS_hit {p : Int → Bool} {xs : List Int} {k : Nat} (h : k < xs.length) (hp : p (nth xs k) = true) : idxS p xs k = k := scan_inl h (by simp [hp])
theorem idxS_next {p : Int → Bool} {xs : List Int} {k : Nat} (h : k < xs.length) (hp : p (nth xs k) = false) : idxS p xs k = idxS p xs (k + 1) := scan_inr h (by simp [hp])
theorem idxS_end {p : Int → Bool} {xs : List Int} {k : Nat} (h : xs.length ≤ k) : idxS p xs k = -1 := scan_ge h
theorem idxS_spec {p : Int → Bool} {xs : List Int} : ∀ k, k ≤ xs.length → (∀ i, i < k → p (nth xs i) = false) → (idxS p xs k = -1 ∧ ∀ i, i < xs.length → p (nth xs i) = false) ∨ ∃ j : Nat, j < xs.length ∧ idxS p xs k = j ∧ p (nth xs j) = true ∧ ∀ i, i < j → p (nth xs i) = false := by
  intro k hk
  obtain ⟨r, hr⟩ : ∃ r, r = xs.length - k := ⟨_, rfl⟩
  induction r generalizing k with
  | zero =>
    intro h
    rw [idxS_end (by omega)]
    exact .inl ⟨rfl, fun i hi => h i (by omega)⟩
  | succ r ih =>
    intro h
    have hlt : k < xs.length := by omega
    cases hp : p (nth xs k)
    · rw [idxS_next hlt hp]
      refine ih (k + 1) (by omega) (by omega) (fun i hi => ?_)
      rcases Nat.lt_or_ge i k with h1 | h1
      · exact h i h1
      · obtain rfl : i = k := by omega
        exact hp
    · exact .inr ⟨k, hlt, idxS_hit hlt hp, hp, h⟩
/-- some number has a property -/
def anyF (p : Int → Bool) (xs : List Int) : Bool := decide (0 ≤ idxS p xs 0)
theorem anyF_false {p : Int → Bool} {xs : List Int} : anyF p xs = false ↔ ∀ i, i < xs.length → p (nth xs i) = false := by
  unfold anyF
  rcases idxS_spec (p := p) (xs := xs) 0 (by omega) (fun i hi => by omega) with ⟨h1, h2⟩ | ⟨j, h1, h2, h3, h4⟩
  · rw [h1]; simpa using h2
  · rw [h2]
    constructor
    · intro h; simp at h
    · intro h; rw [h j h1] at h3; cases h3
theorem anyF_true {p : Int → Bool} {xs : List Int} : anyF p xs = true ↔ ∃ i, i < xs.length ∧ p (nth xs i) = true := by
  constructor
  · intro h
    rcases idxS_spec (p := p) (xs := xs) 0 (by omega) (fun i hi => by omega) with ⟨h1, h2⟩ | ⟨j, h1, h2, h3, h4⟩
    · unfold anyF at h; rw [h1] at h; simp at h
    · exact ⟨j, h1, h3⟩
  · rintro ⟨i, hi, hp⟩
    cases h : anyF p xs
    · rw [anyF_false.1 h i hi] at hp; cases hp
    · rfl

def BoolBelow (b : Bool) (w : World) (e : Ending) (w' : World) : Prop := e = .returned (.bool b) ∧ Below w.heap.size w w'
def IntBelow (n : Int) (w : World) (e : Ending) (w' : World) : Prop := e = .returned (.int .i64 n) ∧ Below w.heap.size w w'

set_option maxHeartbeats 1000000 in
theorem indexFunc_any (K : IntKind) (g : Nat) (lb : Array Value) (p : Int → Bool) (v : Value) (xs : List Int) (w : World) (hp : ∀ n w', Below w.heap.size w w' → Calls Try.prog g (#[.int K n] ++ lb) w' (BoolBelow (p n) w'))
    (henter : ∀ args w, (callFunc g args).run Try.prog w = .ok (.enter g args) w) (hv : NumSl K w v xs) (hm : xs.length ≤ 4611686018427387904) :
    Calls Try.prog 54 #[v, .func (.func g) #[] lb] w (IntBelow (idxS p xs 0) w) := by
  obtain ⟨a, cap, hva⟩ := hv.len
  obtain ⟨F, hF⟩ : ∃ F, idxS p xs 0 = F := ⟨_, rfl⟩
  rw [hF]
  replace hF := Lib.hid hF
  subst hva
  go_enter Try.func54, Try.ntmps54
  go_wp2
  go_loopw [8] (fun i wr => ∃ k : Nat, k ≤ xs.length ∧ i = .int .i64 k ∧ Hid (idxS p xs k = F) ∧ Below w.heap.size w wr) (fun i _ => xs.length - (intOf i).toNat)
  case atStart => exact ⟨0, Nat.zero_le _, rfl, hF, Below.refl _ _⟩
  case round =>
    obtain ⟨k, hk, rfl, hr, hB⟩ := hrel
    by_cases hlt : k < xs.length
    · obtain ⟨b, off, cap', he, hc⟩ := (hv.mono hB).at hlt
      cases he
      have hck := hc k hlt
      have hs := @idxS_next p xs k hlt
      have hso := @idxS_hit p xs k hlt
      have hpk := hp (nth xs k) wr hB
      clear hc hv
      generalize nth xs k = x at hck hs hso hpk
      cases hpx : p x
      · replace hs := Lib.hid (hs hpx); rw [hpx] at hpk; clear hpx hso
        replace hpk := Lib.hid hpk
        go_wp2_with fail
        refine hpk.out.mono ?_
        rintro e w' ⟨rfl, hb⟩
        go_wp2
        go_roundw
        case rel => exact ⟨k + 1, by omega, by go_num, hs.out.symm.trans hr.out, hB.trans (hb.mono hB.size)⟩
        case measure => simp [intOf]; omega
      · replace hso := Lib.hid (hso hpx); rw [hpx] at hpk; clear hpx hs
        replace hpk := Lib.hid hpk
        go_wp2_with fail
        refine hpk.out.mono ?_
        rintro e w' ⟨rfl, hb⟩
        go_wp2
        go_ret
        exact ⟨ret_int (hso.out.symm.trans hr.out), hB.trans (hb.mono hB.size)⟩
    · have hen := Lib.hid (idxS_end (p := p) (xs := xs) (k := k) (by omega))
      go_wp2
      go_ret
      exact ⟨ret_int (hen.out.symm.trans hr.out), hB⟩

set_option maxHeartbeats 400000 in
theorem containsFunc_any (K : IntKind) (g : Nat) (lb : Array Value) (p : Int → Bool) (v : Value) (xs : List Int) (w : World) (hp : ∀ n w', Below w.heap.size w w' → Calls Try.prog g (#[.int K n] ++ lb) w' (BoolBelow (p n) w'))
    (henter : ∀ args w, (callFunc g args).run Try.prog w = .ok (.enter g args) w) (hv : NumSl K w v xs) (hm : xs.length ≤ 4611686018427387904) :
    Calls Try.prog 52 #[v, .func (.func g) #[] lb] w (BoolBelow (anyF p xs) w) := by
  have hi := indexFunc_any K g lb p v xs w hp henter hv hm
  obtain ⟨a, cap, hva⟩ := hv.len
  unfold anyF
  generalize idxS p xs 0 = F at hi ⊢
  replace hi := Lib.hid hi
  subst hva
  by_cases h : 0 ≤ F
  · have hd : decide (0 ≤ F) = true := by simpa using h
    go_enter Try.func52, Try.ntmps52
    go_wp2_with fail
    refine hi.out.mono ?_
    rintro e w' ⟨rfl, hb⟩
    go_wp2
    go_ret
    exact ⟨ret_bool (by first | rfl | exact hd.symm | (rw [hd]; rfl)), hb⟩
  · have hd : decide (0 ≤ F) = false := by simpa using h
    go_enter Try.func52, Try.ntmps52
    go_wp2_with fail
    refine hi.out.mono ?_
    rintro e w' ⟨rfl, hb⟩
    go_wp2
    go_ret
    exact ⟨ret_bool (by first | rfl | exact hd.symm | (rw [hd]; rfl)), hb⟩
end Go.Proofs.Ytgnamahdchefnaa
