/- Totals of assignments, and errors and sums of potentials, as functions. No walk. Conditions: none. -/
import Derived.Test.YtoendfpfnfeccaaP4
import Derived.Test.YtoendfpfnfeccaaContains
namespace Go.Proofs.Ytoendfpfnfeccaa

/-- whether an earlier number is the same, from place k on -/
def dupF (ls : List Int) (i k : Nat) : Bool := scan i (fun k (_ : Unit) => if nth ls k = nth ls i then .inl true else .inr ()) (fun _ => false) k ()
theorem dupF_hit {ls : List Int} {i k : Nat} (h : k < i) (h1 : nth ls k = nth ls i) : dupF ls i k = true := scan_inl h (by simp [h1])
theorem dupF_next {ls : List Int} {i k : Nat} (h : k < i) (h1 : nth ls k ≠ nth ls i) : dupF ls i k = dupF ls i (k + 1) := scan_inr h (by simp [h1])
theorem dupF_end {ls : List Int} {i k : Nat} (h : i ≤ k) : dupF ls i k = false := scan_ge h
theorem dupF_iff {ls : List Int} {i : Nat} : dupF ls i 0 = true ↔ ∃ q, q < i ∧ nth ls q = nth ls i := by
  have h : ∀ (r k : Nat), r = i - k → (dupF ls i k = true ↔ ∃ q, k ≤ q ∧ q < i ∧ nth ls q = nth ls i) := fun r => by
    induction r with
    | zero =>
      intro k hk
      rw [dupF_end (by omega)]
      constructor
      · intro h; cases h
      · rintro ⟨q, h1, h2, _⟩; omega
    | succ r ih =>
      intro k hk
      have hlt : k < i := by omega
      by_cases e : nth ls k = nth ls i
      · rw [dupF_hit hlt e]
        exact ⟨fun _ => ⟨k, Nat.le_refl _, hlt, e⟩, fun _ => rfl⟩
      · rw [dupF_next hlt e, ih (k + 1) (by omega)]
        constructor
        · rintro ⟨q, h1, h2, h3⟩; exact ⟨q, by omega, h2, h3⟩
        · rintro ⟨q, h1, h2, h3⟩
          exact ⟨q, by have : q ≠ k := fun e2 => e (e2 ▸ h3)
                       omega, h2, h3⟩
  rw [h i 0 rfl]
  exact ⟨fun ⟨q, _, h2⟩ => ⟨q, h2⟩, fun ⟨q, h2⟩ => ⟨q, Nat.zero_le _, h2⟩⟩

def totB (css : List (List Int)) (ls : List Int) (skips : Bool) (skip : Int) (i : Nat) (s : Int) : (Int × Int) ⊕ Int :=
  if skips = true ∧ nth ls i = -1 then .inr (s + skip) else if nth ls i < 0 ∨ (colN css : Int) ≤ nth ls i then .inl (0, 3) else if dupF ls i 0 = true then .inl (0, 9)
  else .inr (s + nth (nths css i) (nth ls i).toNat)
/-- the total from row i on -/
def totS (css : List (List Int)) (ls : List Int) (skips : Bool) (skip : Int) (i : Nat) (s : Int) : Int × Int := scan css.length (totB css ls skips skip) (fun s => (s, 0)) i s
/-- the total of columns, with their error -/
def totF (css : List (List Int)) (ls : List Int) (skips : Bool) (skip : Int) : Int × Int := if ls.length ≠ css.length then (0, 5) else totS css ls skips skip 0 0
section
variable {css : List (List Int)} {ls : List Int} {skips : Bool} {skip s : Int} {i : Nat}
theorem totS_end (h : css.length ≤ i) : totS css ls skips skip i s = (s, 0) := scan_ge h
theorem totS_skip (h : i < css.length) (h1 : skips = true) (h2 : nth ls i = -1) : totS css ls skips skip i s = totS css ls skips skip (i + 1) (s + skip) := scan_inr h (by unfold totB; rw [if_pos ⟨h1, h2⟩])
theorem totS_range (h : i < css.length) (h1 : ¬ (skips = true ∧ nth ls i = -1)) (h2 : nth ls i < 0 ∨ (colN css : Int) ≤ nth ls i) : totS css ls skips skip i s = (0, 3) := scan_inl h (by unfold totB; rw [if_neg h1, if_pos h2])
theorem totS_dup (h : i < css.length) (h1 : ¬ (skips = true ∧ nth ls i = -1)) (h2 : ¬ (nth ls i < 0 ∨ (colN css : Int) ≤ nth ls i)) (h3 : dupF ls i 0 = true) : totS css ls skips skip i s = (0, 9) := scan_inl h (by unfold totB; rw [if_neg h1, if_neg h2, if_pos h3])
theorem totS_next (h : i < css.length) (h1 : ¬ (skips = true ∧ nth ls i = -1)) (h2 : ¬ (nth ls i < 0 ∨ (colN css : Int) ≤ nth ls i)) (h3 : dupF ls i 0 = false) : totS css ls skips skip i s = totS css ls skips skip (i + 1) (s + nth (nths css i) (nth ls i).toNat) :=
  scan_inr h (by unfold totB; rw [if_neg h1, if_neg h2, if_neg (by simp [h3])])
end
/-- the columns that rows below i use -/
def Used (m : Nat) (ls : List Int) (i : Nat) (f : Nat → Bool) : Prop := ∀ c : Nat, c < m → (f c = true ↔ ∃ q, q < i ∧ nth ls q = c)
theorem Used.start {m : Nat} {ls : List Int} {f : Nat → Bool} (h : ∀ k, f k = false) : Used m ls 0 f := fun c _ => by
  rw [h c]
  constructor
  · intro h; cases h
  · rintro ⟨q, h1, _⟩; omega
theorem Used.dup {m : Nat} {ls : List Int} {i c : Nat} {f : Nat → Bool} (h : Used m ls i f) (hc : c < m) (e : nth ls i = c) : f c = dupF ls i 0 := by
  cases hd : dupF ls i 0
  · cases hf : f c
    · rfl
    · obtain ⟨q, h1, h2⟩ := (h c hc).1 hf
      have := dupF_iff.2 ⟨q, h1, h2.trans e.symm⟩
      rw [hd] at this
      cases this
  · obtain ⟨q, h1, h2⟩ := dupF_iff.1 hd
    exact (h c hc).2 ⟨q, h1, h2.trans e⟩
theorem Used.skip {m : Nat} {ls : List Int} {i : Nat} {f : Nat → Bool} (h : Used m ls i f) (e : nth ls i = -1) : Used m ls (i + 1) f := fun c hc => by
  rw [h c hc]
  constructor
  · rintro ⟨q, h1, h2⟩; exact ⟨q, by omega, h2⟩
  · rintro ⟨q, h1, h2⟩
    exact ⟨q, by have : q ≠ i := fun e2 => by rw [e2, e] at h2; omega
                 omega, h2⟩
theorem Used.put {m : Nat} {ls : List Int} {i d : Nat} {bs : List Bool} (h : Used m ls i (nthb bs)) (hl : bs.length = m) (hd : d < m) (e : nth ls i = d) : Used m ls (i + 1) (nthb (bs.set d true)) := fun c hc => by
  rw [nthb_set (by omega)]
  by_cases ec : c = d
  · rw [if_pos ec]
    exact ⟨fun _ => ⟨i, by omega, by rw [e, ec]⟩, fun _ => rfl⟩
  · rw [if_neg ec, h c hc]
    constructor
    · rintro ⟨q, h1, h2⟩; exact ⟨q, by omega, h2⟩
    · rintro ⟨q, h1, h2⟩
      exact ⟨q, by have : q ≠ i := fun e2 => by rw [e2, e] at h2; omega
                   omega, h2⟩

def badP (n : Int) : Bool := !betw n (-1000000000000) 1000000000000
def posB (n : Int) : Bool := decide (0 < n)
theorem badP_false {n : Int} (h : badP n = false) : -1000000000000 ≤ n ∧ n ≤ 1000000000000 := betw_iff.1 (by simpa [badP] using h)
theorem badP_in {n : Int} (h : -1000000000000 ≤ n ∧ n ≤ 1000000000000) : badP n = false := by unfold badP; rw [betw_true h]; rfl
theorem badP_lo {n : Int} (h : n < -1000000000000) : badP n = true := by unfold badP; rw [betw_false (by omega)]; rfl
theorem badP_hi {n : Int} (h : 1000000000000 < n) : badP n = true := by unfold badP; rw [betw_false (by omega)]; rfl
/-- the error of the sizes of potentials -/
def szE (css : List (List Int)) (rows l : List Int) : Int := if rows.length ≠ css.length ∨ l.length ≠ colN css then 5 else if anyF badP rows = true ∨ anyF badP l = true then 3 else 0
/-- whether a sum in row i is above its cost, from column k on -/
def vp (css : List (List Int)) (rows l : List Int) (i k : Nat) : Bool := scan l.length (fun k (_ : Unit) => if nth (nths css i) k < nth rows i + nth l k then .inl true else .inr ()) (fun _ => false) k ()
/-- the same, from row i on -/
def va (css : List (List Int)) (rows l : List Int) (i : Nat) : Bool := scan css.length (fun i (_ : Unit) => if vp css rows l i 0 = true then .inl true else .inr ()) (fun _ => false) i ()
def valF (css : List (List Int)) (rows l : List Int) : Bool := !(anyF posB l) && !(va css rows l 0)
def sumF (rows l : List Int) : Int := sumN (nth rows) rows.length + sumN (nth l) l.length
/-- the bound of potentials, with its error -/
def potF (css : List (List Int)) (rows l : List Int) : Int × Int := if szE css rows l ≠ 0 then (0, szE css rows l) else if valF css rows l = true then (sumF rows l, 0) else (0, 20)
section
variable {css : List (List Int)} {rows l xs ys : List Int} {i k : Nat} {p : Int → Bool}
theorem vp_hit (h : k < l.length) (h1 : nth (nths css i) k < nth rows i + nth l k) : vp css rows l i k = true := scan_inl h (by simp [h1])
theorem vp_next (h : k < l.length) (h1 : ¬ nth (nths css i) k < nth rows i + nth l k) : vp css rows l i k = vp css rows l i (k + 1) := scan_inr h (by simp [h1])
theorem vp_end (h : l.length ≤ k) : vp css rows l i k = false := scan_ge h
theorem va_hit (h : i < css.length) (h1 : vp css rows l i 0 = true) : va css rows l i = true := scan_inl h (by simp [h1])
theorem va_next (h : i < css.length) (h1 : vp css rows l i 0 = false) : va css rows l i = va css rows l (i + 1) := scan_inr h (by simp [h1])
theorem va_end (h : css.length ≤ i) : va css rows l i = false := scan_ge h
theorem vp_all (h : ∀ k, k < l.length → nth rows i + nth l k ≤ nth (nths css i) k) : ∀ (r k : Nat), r = l.length - k → vp css rows l i k = false
  | 0, k, hr => vp_end (by omega)
  | r + 1, k, hr => by rw [vp_next (by omega) (by have := h k (by omega); omega)]; exact vp_all h r (k + 1) (by omega)
theorem va_all (h : ∀ i k, i < css.length → k < l.length → nth rows i + nth l k ≤ nth (nths css i) k) : ∀ (r i : Nat), r = css.length - i → va css rows l i = false
  | 0, i, hr => va_end (by omega)
  | r + 1, i, hr => by rw [va_next (by omega) (vp_all (fun k hk => h i k (by omega) hk) _ 0 rfl)]; exact va_all h r (i + 1) (by omega)
theorem valF_true (h1 : ∀ k, k < l.length → nth l k ≤ 0) (h2 : ∀ i k, i < css.length → k < l.length → nth rows i + nth l k ≤ nth (nths css i) k) : valF css rows l = true := by
  unfold valF
  rw [va_all h2 _ 0 rfl, anyF_false.2 (fun i hi => by unfold posB; exact decide_eq_false (by have := h1 i hi; omega))]
  rfl
theorem nth_append_lt (h : k < xs.length) : nth (xs ++ ys) k = nth xs k := by unfold nth; rw [List.getElem?_append_left h]
theorem nth_append_ge (k : Nat) : nth (xs ++ ys) (xs.length + k) = nth ys k := by unfold nth; rw [List.getElem?_append_right (by omega)]; congr 2; omega
theorem anyF_append : anyF p (xs ++ ys) = (anyF p xs || anyF p ys) := by
  cases h : anyF p (xs ++ ys)
  · rw [anyF_false] at h
    rw [anyF_false.2 (fun i hi => by rw [← nth_append_lt hi]; exact h i (by simp; omega)), anyF_false.2 (fun i hi => by rw [← nth_append_ge (xs := xs)]; exact h _ (by simp; omega))]
    rfl
  · obtain ⟨i, hi, hp⟩ := anyF_true.1 h
    simp at hi
    rcases Nat.lt_or_ge i xs.length with h1 | h1
    · rw [nth_append_lt h1] at hp
      rw [anyF_true.2 ⟨i, h1, hp⟩]; rfl
    · obtain ⟨j, rfl⟩ := Nat.exists_eq_add_of_le h1
      rw [nth_append_ge] at hp
      rw [anyF_true.2 ⟨j, by omega, hp⟩, Bool.or_true]
theorem sumN_append : ∀ q : Nat, q ≤ ys.length → sumN (nth (xs ++ ys)) (xs.length + q) = sumN (nth xs) xs.length + sumN (nth ys) q
  | 0, _ => by simp only [Nat.add_zero, sumN, Int.add_zero]; exact sumN_congr _ (fun k hk => nth_append_lt hk)
  | q + 1, h => by
    have := sumN_append q (by omega)
    show sumN (nth (xs ++ ys)) (xs.length + q) + nth (xs ++ ys) (xs.length + q) = sumN (nth xs) xs.length + (sumN (nth ys) q + nth ys q)
    rw [this, nth_append_ge]
    omega
theorem sumF_eq : sumN (nth (xs ++ ys)) (xs.length + ys.length) = sumF xs ys := sumN_append _ (Nat.le_refl _)
/-- the sizes are right -/
structure SzOk (css : List (List Int)) (rows l : List Int) : Prop where
  r : rows.length = css.length
  c : l.length = colN css
  rb : ∀ k, -1000000000000 ≤ nth rows k ∧ nth rows k ≤ 1000000000000
  cb : ∀ k, -1000000000000 ≤ nth l k ∧ nth l k ≤ 1000000000000
theorem anyP_bd (h : anyF badP xs = false) : ∀ k, -1000000000000 ≤ nth xs k ∧ nth xs k ≤ 1000000000000 := fun k => by
  rcases Nat.lt_or_ge k xs.length with h1 | h1
  · exact badP_false (anyF_false.1 h k h1)
  · rw [nth_over h1]; omega
theorem szOk_of (h : szE css rows l = 0) : SzOk css rows l := by
  unfold szE at h
  split at h
  · cases h
  · rename_i h1
    split at h
    · cases h
    · rename_i h2
      refine ⟨Decidable.byContradiction fun e => h1 (.inl e), Decidable.byContradiction fun e => h1 (.inr e), anyP_bd ?_, anyP_bd ?_⟩
      · cases e : anyF badP rows
        · rfl
        · exact absurd (.inl e) h2
      · cases e : anyF badP l
        · rfl
        · exact absurd (.inr e) h2
theorem szE_zero (h : SzOk css rows l) : szE css rows l = 0 := by
  unfold szE
  rw [if_neg (by rw [h.r, h.c]; simp), if_neg]
  rw [anyF_false.2 (fun i _ => badP_in (h.rb i)), anyF_false.2 (fun i _ => badP_in (h.cb i))]
  simp
end
end Go.Proofs.Ytoendfpfnfeccaa
