/- Plain facts of consoles, registrations and states: what is right, what is possible, what an event does. Conditions: none. -/
import Derived.Test.YtgnamahdchefnaaR1
import Derived.Laws.BitsAllLaws
namespace Go.Proofs.Ytgnamahdchefnaa
open Go.RowKit Go.Shelf

/-- a console of a plan -/
structure Con.Ok (C : Con) : Prop where
  n : C.s.length ≤ 3
  s : ∀ k, 0 ≤ nth C.s k ∧ nth C.s k ≤ 4
  co : 0 ≤ C.co ∧ C.co ≤ 3
  ge : 0 ≤ C.ge ∧ C.ge ≤ 3
  dl : C.d.length = C.s.length
  d : ∀ k, 0 ≤ nth C.d k ∧ nth C.d k ≤ 2
  lv : 1 ≤ C.lv ∧ C.lv ≤ 2
def rightB (C : Con) (xs : List Int) (k : Nat) (_ : Unit) : Int ⊕ Unit := if nth xs k / 2 ^ (nth C.s k).toNat ≠ 0 then .inl 3 else .inr ()
def rightE (C : Con) (c o : Int) : Int := if c / 2 ^ C.co.toNat ≠ 0 ∨ o / 2 ^ C.s.length ≠ 0 then 3 else 0
def rightS (C : Con) (r : Rg) (k : Nat) : Int := scan C.s.length (rightB C r.s) (fun _ => rightE C r.c r.o) k ()
/-- the error of a registration -/
def rightF (C : Con) (r : Rg) : Int := if r.s.length ≠ C.s.length then 5 else rightS C r 0
theorem rightS_bad {C : Con} {r : Rg} {k : Nat} (h : k < C.s.length) (h1 : nth r.s k / 2 ^ (nth C.s k).toNat ≠ 0) : rightS C r k = 3 := scan_inl h (by unfold rightB; rw [if_pos h1])
theorem rightS_next {C : Con} {r : Rg} {k : Nat} (h : k < C.s.length) (h1 : nth r.s k / 2 ^ (nth C.s k).toNat = 0) : rightS C r k = rightS C r (k + 1) := scan_inr h (by unfold rightB; rw [if_neg (by simpa using h1)])
theorem rightS_end {C : Con} {r : Rg} {k : Nat} (h : C.s.length ≤ k) : rightS C r k = rightE C r.c r.o := scan_ge h
/-- a registration is right -/
structure RegOk (C : Con) (r : Rg) : Prop where
  n : r.s.length = C.s.length
  s : ∀ k, k < C.s.length → 0 ≤ nth r.s k ∧ nth r.s k < 2 ^ (nth C.s k).toNat
  c : 0 ≤ r.c ∧ r.c < 2 ^ C.co.toNat
  o : 0 ≤ r.o ∧ r.o < 2 ^ C.s.length
theorem ediv_pow_zero {a : Int} {n : Nat} (h : 0 ≤ a) (h1 : a < 2 ^ n) : a / 2 ^ n = 0 := Int.ediv_eq_zero_of_lt h h1
theorem lt_of_ediv_pow {a : Int} {n : Nat} (h : a / 2 ^ n = 0) : 0 ≤ a ∧ a < 2 ^ n := by
  have hp : (0 : Int) < 2 ^ n := Int.pow_pos (by omega)
  have h1 := Int.emod_add_mul_ediv a (2 ^ n)
  have h2 := Int.emod_nonneg a (Int.ne_of_gt hp)
  have h3 := Int.emod_lt_of_pos a hp
  rw [h] at h1
  omega
theorem RegOk.right {C : Con} {r : Rg} (h : RegOk C r) : rightF C r = 0 := by
  unfold rightF
  rw [if_neg (by simpa using h.n)]
  have : ∀ j k, k + j = C.s.length → rightS C r k = 0 := fun j => by
    induction j with
    | zero =>
      intro k hk
      rw [rightS_end (by omega)]
      unfold rightE
      rw [if_neg]
      rw [ediv_pow_zero h.c.1 h.c.2, ediv_pow_zero h.o.1 h.o.2]
      simp
    | succ j ih =>
      intro k hk
      rw [rightS_next (by omega) (ediv_pow_zero (h.s k (by omega)).1 (h.s k (by omega)).2)]
      exact ih (k + 1) (by omega)
  exact this C.s.length 0 (by omega)
theorem RegOk.of {C : Con} {r : Rg} (h : rightF C r = 0) : RegOk C r := by
  unfold rightF at h
  by_cases hn : r.s.length = C.s.length
  · rw [if_neg (by simpa using hn)] at h
    have : ∀ j k, k + j = C.s.length → rightS C r k = 0 → (∀ i, k ≤ i → i < C.s.length → nth r.s i / 2 ^ (nth C.s i).toNat = 0) ∧ rightE C r.c r.o = 0 := fun j => by
      induction j with
      | zero =>
        intro k hk h1
        rw [rightS_end (by omega)] at h1
        exact ⟨fun i h2 h3 => by omega, h1⟩
      | succ j ih =>
        intro k hk h1
        by_cases h2 : nth r.s k / 2 ^ (nth C.s k).toNat = 0
        · rw [rightS_next (by omega) h2] at h1
          obtain ⟨h3, h4⟩ := ih (k + 1) (by omega) h1
          refine ⟨fun i h5 h6 => ?_, h4⟩
          by_cases h7 : i = k
          · rw [h7]; exact h2
          · exact h3 i (by omega) h6
        · rw [rightS_bad (by omega) h2] at h1
          cases h1
    obtain ⟨h1, h2⟩ := this C.s.length 0 (by omega) h
    unfold rightE at h2
    split at h2
    · cases h2
    · rename_i h3
      rw [not_or] at h3
      have a := lt_of_ediv_pow (Classical.not_not.1 h3.1)
      have b := lt_of_ediv_pow (Classical.not_not.1 h3.2)
      exact ⟨hn, fun k hk => lt_of_ediv_pow (h1 k (Nat.zero_le _) hk), a, b⟩
  · rw [if_pos hn] at h
    cases h
/-- a state is sound -/
structure SoundP (C : Con) (st : St) : Prop where
  d : RegOk C st.d
  l : 0 ≤ st.l ∧ st.l < C.lv
  gn : (st.g.length : Int) = C.lv
  gl : ∀ i, i < st.g.length → ((get st.g i).length : Int) = C.ge
  gr : ∀ i j, i < st.g.length → j < (get st.g i).length → RegOk C (get (get st.g i) j)
  vn : (st.v.length : Int) = C.lv
  vl : ∀ i, i < st.v.length → (get st.v i).length = C.s.length
  vd : ∀ i j, i < st.v.length → j < C.s.length → ((get (get st.v i) j).length : Int) = nth C.d j
  vb : ∀ i j k, i < st.v.length → j < C.s.length → k < (get (get st.v i) j).length → 0 ≤ nth (get (get st.v i) j) k ∧ nth (get (get st.v i) j) k < 2 ^ (nth C.s j).toNat
  pn : st.p.length ≤ 20
  pr : ∀ j, j < st.p.length → RegOk C (get st.p j)
/-- the error of an event -/
def posF (C : Con) (st : St) (k d i : Int) : Int :=
  if k = 1 then (if 0 ≤ d ∧ d < C.s.length ∧ 0 ≤ i ∧ i < nth C.s d.toNat then 0 else 10)
  else if k = 5 ∨ k = 7 then (if 0 ≤ d ∧ d < C.s.length ∧ 0 ≤ i ∧ i < nth C.d d.toNat then 0 else 10)
  else if k = 2 then (if 0 ≤ i ∧ i < C.co then 0 else 10)
  else if k = 3 then (if 0 ≤ i ∧ i < C.s.length then 0 else 10)
  else if k = 4 ∨ k = 6 then (if 0 ≤ i ∧ i < C.ge then 0 else 10)
  else if k = 8 then (if 0 ≤ i ∧ i < C.lv then 0 else 10)
  else if k = 9 then 0
  else if k = 10 then (if st.p.length = 0 then 19 else 0)
  else 12
/-- a bit turned -/
def tog (a : Int) (i : Nat) : Int := bits BinOp.xor .u64 a (IntKind.u64.wrap (2 ^ i))
def noneR (C : Con) : Rg := ⟨zeros C.s.length, 0, 0⟩
/-- what an event does, without what was drawn before -/
def actF (C : Con) (st : St) (k : Int) (d i : Nat) : St :=
  if k = 1 then { st with d := ⟨st.d.s.set d (tog (nth st.d.s d) i), st.d.c, st.d.o⟩ }
  else if k = 2 then { st with d := ⟨st.d.s, tog st.d.c i, st.d.o⟩ }
  else if k = 3 then { st with d := ⟨st.d.s, st.d.c, tog st.d.o i⟩ }
  else if k = 4 then { st with d := get (get st.g st.l.toNat) i }
  else if k = 5 then { st with d := ⟨st.d.s.set d (nth (get (get st.v st.l.toNat) d) i), st.d.c, st.d.o⟩ }
  else if k = 6 then { st with g := st.g.set st.l.toNat ((get st.g st.l.toNat).set i st.d) }
  else if k = 7 then { st with v := st.v.set st.l.toNat ((get st.v st.l.toNat).set d ((get (get st.v st.l.toNat) d).set i (nth st.d.s d))) }
  else if k = 8 then { st with l := i }
  else { st with d := noneR C }
/-- registrations compared -/
def eqB (a b : Rg) : Bool := (a.s == b.s && a.c == b.c) && a.o == b.o
theorem eqB_iff {a b : Rg} : eqB a b = true ↔ a = b := by
  obtain ⟨s, c, o⟩ := a
  obtain ⟨s', c', o'⟩ := b
  simp [eqB, and_assoc]
theorem eqB_self (a : Rg) : eqB a a = true := eqB_iff.2 rfl
/-- what was drawn before is remembered -/
def pushF (st st1 : St) : St := if eqB st1.d st.d = true then st1 else { st1 with p := (st1.p ++ [st.d]).drop ((st1.p ++ [st.d]).length - 20) }
def undoF (st : St) : St := { st with d := get st.p (st.p.length - 1), p := st.p.take (st.p.length - 1) }
/-- what an event does -/
def doF (C : Con) (st : St) (k d i : Int) : St := if k = 10 then undoF st else pushF st (actF C st k d.toNat i.toNat)
end Go.Proofs.Ytgnamahdchefnaa
