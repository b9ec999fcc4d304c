/- Contracts of drawn and of the model's stages where the list is of the wrong length, however long. Conditions: none. -/
import Derived.Test.YtbfldhmpgealpaaW10
namespace Go.Proofs.Ytbfldhmpgealpaa
open Go.RowKit

set_option maxHeartbeats 1000000 in
theorem drawn_size (v u x : Value) (c o : Int) (T : Tab) (rs : List Int) (w : World) (hv : SlSl w v T.s) (hu : SlSl w u T.b) (hx : NumSl .u64 w x rs) (h2 : rs.length ≠ T.s.length) :
    Calls Try.prog 21 #[tabV v u, regV x c o] w (IntBelow 5 w) := by
  have hB := ((Below.refl w.heap.size w).alloc (Nat.le_refl _) (.cells #[v, u] 35)).alloc (by simp) (.cells #[x, .int .u64 c, .int .u64 o] 39)
  obtain ⟨a, cap, rfl⟩ := hv.len
  obtain ⟨a2, cap2, rfl⟩ := hu.len
  obtain ⟨a3, cap3, rfl⟩ := hx.len
  clear hv hu hx
  have h2' : ((rs.length : Int) != (T.s.length : Int)) = true := by simp; omega
  replace h2 := Lib.hid h2
  go_enter Try.func21, Try.ntmps21
  go_wp2
  go_ret
  exact ⟨rfl, hB⟩

theorem drawn_any' (v u x : Value) (c o : Int) (T : Tab) (rs : List Int) (w : World) (hv : SlSl w v T.s) (hu : SlSl w u T.b) (hT : T.Fit) (hx : NumSl .u64 w x rs) (h60 : ∀ k, k < T.s.length → (nths T.s k).length ≤ 60) :
    Calls Try.prog 21 #[tabV v u, regV x c o] w (IntBelow (fitF T rs) w) := by
  by_cases h : rs.length = T.s.length
  · exact drawn_any v u x c o T rs w hv hu hT hx (by have := hT.s; omega) h60
  · have e : fitF T rs = 5 := by unfold fitF; rw [if_pos h]
    rw [e]
    exact drawn_size v u x c o T rs w hv hu hx h

set_option maxHeartbeats 1000000 in
theorem lawStages_size (v u x : Value) (T : Tab) (l : List Int) (w : World) (hv : SlSl w v T.s) (hu : SlSl w u T.b) (hx : NumSl .i64 w x l) (h2 : l.length ≠ T.s.length) :
    Calls Try.prog 22 #[tabV v u, x] w (IntBelow 5 w) := by
  have hB := (Below.refl w.heap.size w).alloc (Nat.le_refl _) (.cells #[v, u] 35)
  obtain ⟨a, cap, rfl⟩ := hv.len
  obtain ⟨a2, cap2, rfl⟩ := hu.len
  obtain ⟨a3, cap3, rfl⟩ := hx.len
  clear hv hu hx
  have h2' : ((l.length : Int) != (T.s.length : Int)) = true := by simp; omega
  replace h2 := Lib.hid h2
  go_enter Try.func22, Try.ntmps22
  go_wp2
  go_ret
  exact ⟨rfl, hB⟩

theorem lawStages_any' (v u x : Value) (T : Tab) (l : List Int) (w : World) (hv : SlSl w v T.s) (hu : SlSl w u T.b) (hT : T.Fit) (hx : NumSl .i64 w x l) (hsz : T.b.length = T.s.length) :
    Calls Try.prog 22 #[tabV v u, x] w (IntBelow (stgF T l) w) := by
  by_cases h : l.length = T.s.length
  · exact lawStages_any v u x T l w hv hu hT hx (by have := hT.s; omega) hsz
  · have e : stgF T l = 5 := by unfold stgF; rw [if_pos h]
    rw [e]
    exact lawStages_size v u x T l w hv hu hx h
end Go.Proofs.Ytbfldhmpgealpaa
