/- Loops as functions: from a round on, with a state. Lists of numbers that a slice holds. No program. Conditions: none. -/
import Derived.WalkKit
import Derived.Lib.Hide
import Derived.Below
import Derived.Test.YtgnamahdchefnaaKeep
namespace Go.Proofs.Ytgnamahdchefnaa
open Go.RowKit

section
variable {σ ρ : Type}
def scanN (body : Nat → σ → ρ ⊕ σ) (done : σ → ρ) : Nat → Nat → σ → ρ
  | 0, _, s => done s
  | r + 1, k, s => match body k s with
    | .inl x => x
    | .inr s' => scanN body done r (k + 1) s'
/-- a loop from round k on, with the state s: a round ends it with a result, or hands on a state -/
def scan (n : Nat) (body : Nat → σ → ρ ⊕ σ) (done : σ → ρ) (k : Nat) (s : σ) : ρ := scanN body done (n - k) k s
variable {n : Nat} {body : Nat → σ → ρ ⊕ σ} {done : σ → ρ} {k : Nat} {s s' : σ} {x : ρ}
theorem scan_lt (h : k < n) : scan n body done k s = match body k s with
    | .inl x => x
    | .inr s' => scan n body done (k + 1) s' := by
  unfold scan
  rw [show n - k = (n - (k + 1)) + 1 by omega]
  rfl
theorem scan_ge (h : n ≤ k) : scan n body done k s = done s := by
  unfold scan
  rw [show n - k = 0 by omega]
  rfl
theorem scan_inl (h : k < n) (hb : body k s = .inl x) : scan n body done k s = x := by rw [scan_lt h, hb]
theorem scan_inr (h : k < n) (hb : body k s = .inr s') : scan n body done k s = scan n body done (k + 1) s' := by rw [scan_lt h, hb]
/-- induction over a loop: what holds of the state at each round, and of the result -/
theorem scan_ind {I : Nat → σ → Prop} {R : ρ → Prop} (hstep : ∀ k s, k < n → I k s → match body k s with | .inl x => R x | .inr s' => I (k + 1) s') (hdone : ∀ s, I n s → R (done s)) :
    ∀ (k : Nat) (s : σ), k ≤ n → I k s → R (scan n body done k s) := by
  intro k s hk hI
  obtain ⟨r, hr⟩ : ∃ r, r = n - k := ⟨_, rfl⟩
  induction r generalizing k s with
  | zero =>
    have e : k = n := by omega
    subst e
    rw [scan_ge (Nat.le_refl k)]
    exact hdone s hI
  | succ r ih =>
    have hlt : k < n := by omega
    rw [scan_lt hlt]
    have := hstep k s hlt hI
    revert this
    cases body k s with
    | inl x => exact fun h => h
    | inr s' => exact fun h => ih (k + 1) s' (by omega) h (by omega)
end

theorem below_drewN {B : Nat} {a w : World} (h : Below B a w) (n : Nat) : Below B a (w.drewN n) := ⟨h.os, h.tape, h.output, h.size, h.block⟩
theorem quiet_left {P : Program} {f : FuncId} {args : Array Value} {w : World} {n : Nat} {v : Value}
    (h : Calls P f args (w.drewN n) fun e w' => e = .returned v ∧ w.drewN n = w') : Calls P f args (w.drewN n) fun e w'' => e = .returned v ∧ ∃ m, w'' = w.drewN m :=
  h.mono fun _ _ ⟨he, hm⟩ => ⟨he, n, hm.symm⟩
theorem quiet_add_left {P : Program} {f : FuncId} {args : Array Value} {w : World} {a n : Nat} {v : Value}
    (h : Calls P f args (w.drewN (a + n)) fun e w' => e = .returned v ∧ w.drewN (a + n) = w') :
    Calls P f args (w.drewN (a + n)) fun e w'' => e = .returned v ∧ ∃ m, w'' = w.drewN (a + m) :=
  h.mono fun _ _ ⟨he, hm⟩ => ⟨he, n, hm.symm⟩
theorem tdiv_abs (a p : Int) : -(a.natAbs : Int) ≤ a.tdiv p ∧ a.tdiv p ≤ (a.natAbs : Int) := by
  have h := Int.natAbs_tdiv a p
  have h2 : (a.tdiv p).natAbs ≤ a.natAbs := by rw [h]; exact Nat.div_le_self _ _
  have h3 : a.tdiv p ≤ ((a.tdiv p).natAbs : Int) := Int.le_natAbs
  have h4 : -(a.tdiv p) ≤ ((-(a.tdiv p)).natAbs : Int) := Int.le_natAbs
  rw [Int.natAbs_neg] at h4
  generalize a.tdiv p = q at h2 h3 h4
  omega
/-- the k-th number -/
def nth (xs : List Int) (k : Nat) : Int := xs[k]?.getD 0
theorem nth_lt {xs : List Int} {k : Nat} (h : k < xs.length) : nth xs k = xs[k] := by simp [nth, h]

/-- v reads in w as the list xs of numbers of a kind -/
def NumSl (K : IntKind) (w : World) (v : Value) (xs : List Int) : Prop :=
  ((∃ a cap, v = .slice a 0 cap) ∧ xs = []) ∨ ∃ b off cap, v = .slice (some ⟨b, off, none⟩) xs.length cap ∧ ∀ i, i < xs.length → w.cell? ⟨b, off + i, none⟩ = some (.int K (nth xs i))

theorem NumSl.len {K : IntKind} {w : World} {v : Value} {xs : List Int} (h : NumSl K w v xs) : ∃ a cap, v = .slice a xs.length cap := by
  rcases h with ⟨⟨a, cap, rfl⟩, rfl⟩ | ⟨b, off, cap, rfl, _⟩
  · exact ⟨a, cap, rfl⟩
  · exact ⟨some ⟨b, off, none⟩, cap, rfl⟩
theorem NumSl.mono {K : IntKind} {w w' : World} {v : Value} {xs : List Int} (h : NumSl K w v xs) (hb : Below w.heap.size w w') : NumSl K w' v xs := by
  rcases h with h | ⟨b, off, cap, rfl, hc⟩
  · exact .inl h
  · exact .inr ⟨b, off, cap, rfl, fun i hi => (hb.cell (p := ⟨b, off + i, none⟩) (lt_of_cell (hc i hi))).trans (hc i hi)⟩
theorem NumSl.at {K : IntKind} {w : World} {v : Value} {xs : List Int} (h : NumSl K w v xs) {k : Nat} (hk : k < xs.length) : ∃ b off cap, v = .slice (some ⟨b, off, none⟩) xs.length cap ∧ ∀ i, i < xs.length → w.cell? ⟨b, off + i, none⟩ = some (.int K (nth xs i)) := by
  rcases h with ⟨_, rfl⟩ | h
  · simp at hk
  · exact h
theorem NumSl.nil {K : IntKind} {w : World} {a : Option Addr} {cap : Nat} : NumSl K w (.slice a 0 cap) [] := .inl ⟨⟨a, cap, rfl⟩, rfl⟩

/-- v reads in w as a list; each element is n cells that read as the list's element -/
def RowSl {α : Type} (n : Nat) (R : World → List Value → α → Prop) (w : World) (v : Value) (xs : List α) : Prop :=
  ((∃ a cap, v = .slice a 0 cap) ∧ xs = []) ∨ ∃ b off cap, v = .slice (some ⟨b, off, none⟩) xs.length cap ∧ b < w.heap.size ∧
    ∀ i (h : i < xs.length), ∃ cs : List Value, cs.length = n ∧ R w cs xs[i] ∧ ∀ (j : Nat) (u : Value), cs[j]? = some u → w.cell? ⟨b, off + i * n + j, none⟩ = some u
section
variable {α : Type} {n : Nat} {R : World → List Value → α → Prop} {w w' : World} {v : Value} {xs : List α}
theorem RowSl.len (h : RowSl n R w v xs) : ∃ a cap, v = .slice a xs.length cap := by
  rcases h with ⟨⟨a, cap, rfl⟩, rfl⟩ | ⟨b, off, cap, rfl, _⟩
  · exact ⟨a, cap, rfl⟩
  · exact ⟨some ⟨b, off, none⟩, cap, rfl⟩
theorem RowSl.mono (h : RowSl n R w v xs) (hb : Below w.heap.size w w') (hR : ∀ cs x, R w cs x → R w' cs x) : RowSl n R w' v xs := by
  rcases h with h | ⟨b, off, cap, rfl, hl, hc⟩
  · exact .inl h
  · refine .inr ⟨b, off, cap, rfl, Nat.lt_of_lt_of_le hl hb.size, fun i hi => ?_⟩
    obtain ⟨cs, h1, h2, h3⟩ := hc i hi
    exact ⟨cs, h1, hR _ _ h2, fun j u hu => (hb.cell (p := ⟨b, off + i * n + j, none⟩) hl).trans (h3 j u hu)⟩
theorem RowSl.at (h : RowSl n R w v xs) {k : Nat} (hk : k < xs.length) : ∃ b off cap, v = .slice (some ⟨b, off, none⟩) xs.length cap ∧ b < w.heap.size ∧
    ∀ i (h : i < xs.length), ∃ cs : List Value, cs.length = n ∧ R w cs xs[i] ∧ ∀ (j : Nat) (u : Value), cs[j]? = some u → w.cell? ⟨b, off + i * n + j, none⟩ = some u := by
  rcases h with ⟨_, rfl⟩ | h
  · simp at hk
  · exact h
theorem RowSl.nil {a : Option Addr} {cap : Nat} : RowSl n R w (.slice a 0 cap) [] := .inl ⟨⟨a, cap, rfl⟩, rfl⟩
end

theorem ret_int {k : IntKind} {a b : Int} (h : a = b) : Ending.returned (.int k a) = .returned (.int k b) := by rw [h]
theorem ret_bool {a b : Bool} (h : a = b) : Ending.returned (.bool a) = .returned (.bool b) := by rw [h]

/-- a number lies between two -/
def betw (n lo hi : Int) : Bool := decide (lo ≤ n) && decide (n ≤ hi)
theorem betw_true {n lo hi : Int} (h : lo ≤ n ∧ n ≤ hi) : betw n lo hi = true := by simp [betw, h.1, h.2]
theorem betw_false {n lo hi : Int} (h : ¬ (lo ≤ n ∧ n ≤ hi)) : betw n lo hi = false := by
  unfold betw
  rw [Bool.and_eq_false_iff]
  rcases Int.lt_or_le n lo with h1 | h1
  · exact .inl (decide_eq_false (by omega))
  · exact .inr (decide_eq_false (by omega))
theorem betw_iff {n lo hi : Int} : betw n lo hi = true ↔ lo ≤ n ∧ n ≤ hi := by simp [betw]

end Go.Proofs.Ytgnamahdchefnaa
