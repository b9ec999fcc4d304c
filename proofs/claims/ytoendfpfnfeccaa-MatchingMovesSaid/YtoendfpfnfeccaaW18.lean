/- What the checks say of a result of least cost; Least behind unused. Conditions: right costs. -/
import Derived.Test.YtoendfpfnfeccaaW17
namespace Go.Proofs.Ytoendfpfnfeccaa
open Go.RowKit Go.Shelf

section
variable {css : List (List Int)} {skip : Option Int} {cs rows pots : List Int} {tot : Int}
theorem ResOk.prv (h : ResOk css skip cs rows pots tot) {most : Int} (hm : ∀ r, r < css.length → nth rows r ≤ most) : prvF css tot rows pots tot 0 most = 0 := by
  unfold prvF
  have ha : anyF (aboveB most) rows = false := anyF_false.2 (fun i hi => by
    have := hm i (by rw [← h.rl]; exact hi)
    unfold aboveB
    exact decide_eq_false (by omega))
  rw [h.pot, ha]
  simp
theorem ResOk.ver (h : ResOk css none cs rows pots tot) (hd : ckF css true = 0) : verF css cs tot rows pots = 0 := by
  unfold verF afterF
  rw [hd, if_neg (by simp)]
  have := h.total
  rw [show totF css cs (none : Option Int).isSome ((none : Option Int).getD 0) = totF css cs false 0 from rfl] at this
  rw [this]
  exact h.prv (fun r hr => by have := (h.rb r hr).2; omega)
theorem ResOk.verP {s : Int} (h : ResOk css (some s) cs rows pots tot) (hd : ckP css s = 0) : verP css s cs tot rows pots = 0 := by
  unfold Go.Proofs.Ytoendfpfnfeccaa.verP afterF
  rw [hd, if_neg (by simp)]
  have := h.total
  rw [show totF css cs (some s).isSome ((some s).getD 0) = totF css cs true s from rfl] at this
  rw [this]
  exact h.prv (fun r hr => h.sk r s hr rfl)
end
/-- behind Least, from unused on -/
def LeastUn (U : World) (o : Option Int) (e : Ending) (X : World) : Prop := e = .returned (optV o) ∧ Below U.heap.size U X
set_option maxHeartbeats 1000000 in
theorem least_un (U : World) (v sk uv : Value) (css : List (List Int)) (skip : Option Int) (J : World → Prop) (X : World) (hv : SlSl U v css) (hJ : ∀ W, J W → NumSl .i64 W sk skip.toList) (hJs : 0 < colN css → 0 < css.length → ∀ W i b, J W → J (W.setCell ⟨U.heap.size, i, none⟩ (.bool b))) (hok : CsOk css)
    (hs : -1000000000 ≤ skip.getD 0 ∧ skip.getD 0 ≤ 1000000000) (hB : Below U.heap.size U X) (hX : J X)
    (hu : (css.length = 0 ∧ uv = .slice none 0 0) ∨ (0 < css.length ∧ uv = rowS U.heap.size (colN css) ∧ RowB U.heap.size U.heap.size (rowS U.heap.size (colN css)) (colN css) (falses (colN css)) X)) :
    Calls Try.prog 25 #[v, .int .i64 0, uv, sk] X (LeastUn U (leastF (colN css) (cF css) skip css.length 0 (List.replicate (colN css) false))) := by
  rcases hu with ⟨h0, rfl⟩ | ⟨h0, rfl, hR⟩
  · obtain rfl : css = [] := List.eq_nil_of_length_eq_zero h0
    have e0 : leastF (colN []) (cF []) skip ([] : List (List Int)).length 0 (List.replicate (colN []) false) = some 0 := rfl
    rw [e0]
    obtain ⟨a, c, rfl⟩ := hv.len
    obtain ⟨a2, c2, rfl⟩ := (hJ X hX).len
    simp only [List.length_nil]
    clear hv hJ hJs hok hs h0 e0 hX
    go_enter Try.func25, Try.ntmps25
    go_wp2
    go_ret2
    exact ⟨rfl, hB⟩
  · obtain ⟨av, cv, rfl⟩ := hv.len
    refine (least_any (fun W => Below U.heap.size U W ∧ J W) U.heap.size av cv sk css skip css.length (colN css) U.heap.size (fun W h => hv.mono h.1) (fun W h => hJ W h.2) (fun hm W i b h => ⟨h.1.setCell (p := ⟨U.heap.size, i, none⟩) (Nat.le_refl _) _, hJs hm h0 W i b h.2⟩) hok rfl rfl hs css.length 0 (falses (colN css)) X (by omega) (falses_len _) hR ⟨hB, hX⟩).mono ?_
    rintro e X' ⟨rfl, _, hB', _⟩
    exact ⟨rfl, hB'⟩
end Go.Proofs.Ytoendfpfnfeccaa
