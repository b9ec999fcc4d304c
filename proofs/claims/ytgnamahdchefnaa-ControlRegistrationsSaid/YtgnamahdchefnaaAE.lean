/- The contract of Example, and what Make makes. Conditions: bytes. -/
import Derived.Test.YtgnamahdchefnaaW5
import Derived.Test.YtgnamahdchefnaaPA
import Derived.IntWalk
namespace Go.Proofs.Ytgnamahdchefnaa
open Go.RowKit Go.Shelf

def exC : Con := ⟨[2, 1], 1, 1, [0, 0], 1⟩
def ConPost (C : Con) (w : World) (e : Ending) (w' : World) : Prop := ∃ x y, e = .returned (conV x y C.co C.ge C.lv) ∧ ConR w' x y C ∧ Below w.heap.size w w'
theorem exC_ok : exC.Ok := {
  n := by decide
  s := fun k => by
    match k with
    | 0 => decide
    | 1 => decide
    | k + 2 => simp [exC, nth]
  co := by decide
  ge := by decide
  dl := rfl
  d := fun k => by
    match k with
    | 0 => decide
    | 1 => decide
    | k + 2 => simp [exC, nth]
  lv := by decide }
theorem num_lit {K : IntKind} {w : World} {b : Nat} {xs : List Int} {cs : Array Value} {t : TypeId} (h : BoxC w b t cs) (hc : ∀ i, i < xs.length → cs[i]? = some (.int K (nth xs i))) : NumSl K w (.slice (some ⟨b, 0, none⟩) xs.length xs.length) xs :=
  .inr ⟨b, 0, xs.length, rfl, fun i hi => h.cell (0 + i) (by rw [Nat.zero_add]; exact hc i hi)⟩
set_option maxHeartbeats 1000000 in
theorem Example_any (w : World) : Calls Try.prog 24 #[] w (ConPost exC w) := by
  go_enter Try.func24, Try.ntmps24
  go_wp2
  have b0 := BoxC.new w 32 #[.slice (some ⟨w.heap.size + 1, 0, none⟩) 2 2, .int .i64 1, .int .i64 1, .slice (some ⟨w.heap.size + 1 + 1, 0, none⟩) 2 2, .int .i64 1]
  have hB := (((Below.refl w.heap.size w).alloc (Nat.le_refl _) (.cells #[.slice (some ⟨w.heap.size + 1, 0, none⟩) 2 2, .int .i64 1, .int .i64 1, .slice (some ⟨w.heap.size + 1 + 1, 0, none⟩) 2 2, .int .i64 1] 32)).alloc (by simp) (.cells #[.int .i64 2, .int .i64 1] 3)).alloc (by simp; omega) (.cells #[.int .i64 0, .int .i64 0] 3)
  have b1 := (BoxC.new (w.alloc (.cells #[.slice (some ⟨w.heap.size + 1, 0, none⟩) 2 2, .int .i64 1, .int .i64 1, .slice (some ⟨w.heap.size + 1 + 1, 0, none⟩) 2 2, .int .i64 1] 32)) 3 #[.int .i64 2, .int .i64 1]).alloc (.cells #[.int .i64 0, .int .i64 0] 3)
  have b2 := BoxC.new ((w.alloc (.cells #[.slice (some ⟨w.heap.size + 1, 0, none⟩) 2 2, .int .i64 1, .int .i64 1, .slice (some ⟨w.heap.size + 1 + 1, 0, none⟩) 2 2, .int .i64 1] 32)).alloc (.cells #[.int .i64 2, .int .i64 1] 3)) 3 #[.int .i64 0, .int .i64 0]
  simp only [World.size_alloc] at b1 b2
  refine bodyPost_ret (ret_cell Try.results24 rfl ((b0.alloc _).alloc _) Try.underlying32 size32) rfl ⟨_, _, rfl, ⟨num_lit (xs := [2, 1]) b1 (fun i hi => ?_), num_lit (xs := [0, 0]) b2 (fun i hi => ?_)⟩, hB⟩
  · match i, hi with
    | 0, _ => rfl
    | 1, _ => rfl
  · match i, hi with
    | 0, _ => rfl
    | 1, _ => rfl
end Go.Proofs.Ytgnamahdchefnaa
namespace Go.Proofs.Ytgnamahdchefnaa
open Go.RowKit Go.Shelf

/-- a plan: up to 3 stops' numbers, couplers, general pistons, levels, divisional pistons -/
structure Pl where
  ss : List Int
  co : Int
  ge : Int
  lv : Int
  d0 : Int
  d1 : Int
  d2 : Int
def Pl.n (p : Pl) : Nat := min p.ss.length 3
def Pl.dv (p : Pl) (k : Nat) : Int := if k = 0 then p.d0 else if k = 1 then p.d1 else p.d2
def Pl.sl (p : Pl) : List Int := (List.range p.n).map (fun k => nth p.ss k % 5)
def Pl.dl (p : Pl) : List Int := (List.range p.n).map (fun k => p.dv k % 3)
def Pl.con (p : Pl) : Con := ⟨p.sl, p.co % 4, p.ge % 4, p.dl, 1 + p.lv % 2⟩
structure Pl.Ok (p : Pl) : Prop where
  ss : ∀ k, k < p.ss.length → 0 ≤ nth p.ss k ∧ nth p.ss k ≤ 255
  co : 0 ≤ p.co ∧ p.co ≤ 255
  ge : 0 ≤ p.ge ∧ p.ge ≤ 255
  lv : 0 ≤ p.lv ∧ p.lv ≤ 255
  d0 : 0 ≤ p.d0 ∧ p.d0 ≤ 255
  d1 : 0 ≤ p.d1 ∧ p.d1 ≤ 255
  d2 : 0 ≤ p.d2 ∧ p.d2 ≤ 255
theorem Pl.sl_len (p : Pl) : p.sl.length = p.n := by simp [Pl.sl]
theorem Pl.dl_len (p : Pl) : p.dl.length = p.n := by simp [Pl.dl]
theorem Pl.sl_nth (p : Pl) {k : Nat} (h : k < p.n) : nth p.sl k = nth p.ss k % 5 := by simp [Pl.sl, nth, h]
theorem Pl.dl_nth (p : Pl) {k : Nat} (h : k < p.n) : nth p.dl k = p.dv k % 3 := by simp [Pl.dl, nth, h]
theorem nth_out {xs : List Int} {k : Nat} (h : xs.length ≤ k) : nth xs k = 0 := by simp [nth, h]
theorem Pl.con_ok {p : Pl} : p.con.Ok := {
  n := by show p.sl.length ≤ 3; rw [p.sl_len]; unfold Pl.n; omega
  s := fun k => by
    show 0 ≤ nth p.sl k ∧ nth p.sl k ≤ 4
    rcases Nat.lt_or_ge k p.n with h | h
    · rw [p.sl_nth h]; omega
    · rw [nth_out (by rw [p.sl_len]; exact h)]; omega
  co := by show 0 ≤ p.co % 4 ∧ p.co % 4 ≤ 3; omega
  ge := by show 0 ≤ p.ge % 4 ∧ p.ge % 4 ≤ 3; omega
  dl := by show p.dl.length = p.sl.length; rw [p.dl_len, p.sl_len]
  d := fun k => by
    show 0 ≤ nth p.dl k ∧ nth p.dl k ≤ 2
    rcases Nat.lt_or_ge k p.n with h | h
    · rw [p.dl_nth h]; omega
    · rw [nth_out (by rw [p.dl_len]; exact h)]; omega
  lv := by show 1 ≤ 1 + p.lv % 2 ∧ 1 + p.lv % 2 ≤ 2; omega }
/-- a row of ints that is owned -/
def RowI (lo : Nat) (κ : Nat → Role) (r : Role) (v : Value) (xs : List Int) (w : World) : Prop := RowX lo κ r 3 1 v xs.length (fun k => .int .i64 (nth xs k)) w
theorem RowI.num {lo : Nat} {κ : Nat → Role} {r : Role} {v : Value} {xs : List Int} {w : World} (h : RowI lo κ r v xs w) : NumSl .i64 w v xs := by
  rcases Nat.eq_zero_or_pos xs.length with h0 | h0
  · obtain ⟨a, c, rfl⟩ := RowX.len h
    rw [h0]
    exact .inl ⟨⟨a, c, rfl⟩, List.eq_nil_of_length_eq_zero h0⟩
  · obtain ⟨g, off, cap, rfl, _, _, _, hc, _⟩ := RowX.at h h0
    exact .inr ⟨g, off, cap, rfl, fun i hi => hc i (by omega)⟩
theorem RowI.push1 {lo : Nat} {κ : Nat → Role} {r : Role} {v : Value} {xs : List Int} {z : Int} {w : World} (h : RowX lo κ r 3 1 v (xs.length + 1) (capp (fun j => .int .i64 (nth xs j)) (xs.length * 1) [.int .i64 z]) w) : RowI lo κ r v (xs ++ [z]) w := by
  unfold RowI
  rw [show (xs ++ [z]).length = xs.length + 1 by simp]
  refine h.congr (fun k hk2 => ?_)
  unfold capp
  by_cases h1 : k < xs.length
  · rw [if_pos (by omega)]
    simp [nth, List.getElem?_append_left h1]
  · have h2 : k = xs.length := by omega
    subst h2
    rw [if_neg (by omega)]
    simp [nth]
end Go.Proofs.Ytgnamahdchefnaa
