/- The contract of plant: the plant of the chapter. Conditions: none. -/
import Derived.Test.YtfefocgekmeahaaP5
namespace Go.Proofs.Ytfefocgekmeahaa
open Go.RowKit Go.Shelf

set_option maxHeartbeats 2000000 in
theorem plant_any (w : World) : Calls Try.prog 35 #[] w (fun e w' => ∃ b, e = .returned (plV 10 (.slice (some ⟨b, 0, none⟩) 3 3)) ∧ NdSl w' (.slice (some ⟨b, 0, none⟩) 3 3) plN ∧ w.heap.size ≤ b ∧ Below w.heap.size w w') := by
  go_enter Try.func35, Try.ntmps35
  go_wp2
  have b0 := (BoxC.new w 24 #[.int .i64 10, .slice (some ⟨w.heap.size + 1, 0, none⟩) 3 3]).alloc (.cells #[.int .i64 (-1), .int .i64 8, .int .i64 6, .int .i64 6, .int .i64 0, .int .i64 5, .int .i64 0, .int .i64 0, .int .i64 0, .int .i64 5, .int .i64 0, .int .i64 0] 42)
  have bS := BoxC.new (w.alloc (.cells #[.int .i64 10, .slice (some ⟨w.heap.size + 1, 0, none⟩) 3 3] 24)) 42 #[.int .i64 (-1), .int .i64 8, .int .i64 6, .int .i64 6, .int .i64 0, .int .i64 5, .int .i64 0, .int .i64 0, .int .i64 0, .int .i64 5, .int .i64 0, .int .i64 0]
  rw [World.size_alloc] at bS
  have c0 := b0.cell 0 rfl
  have c1 := b0.cell 1 rfl
  refine bodyPost_ret (v := plV 10 (.slice (some ⟨w.heap.size + 1, 0, none⟩) 3 3)) (by simp [results, Try.results35, go_sem, c0, c1]) rfl ⟨w.heap.size + 1, rfl, .inr ⟨_, 0, 3, rfl, fun i hi => ?_⟩, by omega, ((Below.refl _ w).alloc (Nat.le_refl _) _).alloc (by simp) _⟩
  have h3 : i = 0 ∨ i = 1 ∨ i = 2 := by simp [plN] at hi; omega
  rcases h3 with rfl | rfl | rfl
  · exact ⟨bS.cell 0 rfl, bS.cell 1 rfl, bS.cell 2 rfl, bS.cell 3 rfl⟩
  · exact ⟨bS.cell 4 rfl, bS.cell 5 rfl, bS.cell 6 rfl, bS.cell 7 rfl⟩
  · exact ⟨bS.cell 8 rfl, bS.cell 9 rfl, bS.cell 10 rfl, bS.cell 11 rfl⟩
end Go.Proofs.Ytfefocgekmeahaa
