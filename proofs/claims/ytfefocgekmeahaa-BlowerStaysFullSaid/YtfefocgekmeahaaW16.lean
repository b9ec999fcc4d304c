/- The contract of Least. Conditions: lists of at most 2^62 elements. -/
import Derived.Test.YtfefocgekmeahaaW15
namespace Go.Proofs.Ytfefocgekmeahaa
open Go.RowKit Go.Shelf

/-- with the supply n something lacks -/
def lkN (ns : List Nd) (dss : List (List Int)) (n : Nat) : Bool := (lkS ns n dss 0).2.2

/-- the two variables of Least, and its arguments, lie as they lay -/
def LeastJ (w : World) (BP BD : Nat) (v u : Value) (W : World) : Prop := (∃ s, BoxC W BP 24 #[.int .i64 s, v]) ∧ BoxC W BD 25 #[u] ∧ Below w.heap.size w W

set_option maxHeartbeats 2000000 in
theorem least1_any (w : World) (BP BD : Nat) (v u : Value) (ns : List Nd) (dss : List (List Int)) (hv : NdSl w v ns) (hu : SlSl w u dss) (hp : PlOk ns) (hd : DssOk ns dss) (hdl : dss.length ≤ 1000) (hBP : w.heap.size ≤ BP) (hBD : BP < BD) (k : Nat) (W : World) (hk : k < 1000000001) (hJ : LeastJ w BP BD v u W) :
    Calls Try.prog 39 (#[.int .i64 k] ++ #[.pointer (some ⟨BP, 0, none⟩), .pointer (some ⟨BD, 0, none⟩)]) W (fun e W' => e = .returned (.bool (!lkN ns dss k)) ∧ LeastJ w BP BD v u W') := by
  obtain ⟨⟨s, bP⟩, bD, hB⟩ := hJ
  have bP2 := bP.set 0 (.int .i64 k)
  have bD2 := bD.other (p := ⟨BP, 0, none⟩) (by show BD ≠ BP; omega) (.int .i64 k)
  have hB2 := hB.setCell (p := ⟨BP, 0, none⟩) hBP (.int .i64 k)
  have hlk := lacks_any k v ns u dss (W.setCell ⟨BP, 0, none⟩ (.int .i64 k)) (hv.mono hB2) (hu.mono hB2) hp (by omega) (by omega) hd hdl
  have f0 := bP.frozen 0
  have c0 := bP.cell 0 rfl
  have d0 := bP2.cell 0 rfl
  have d1 := bP2.cell 1 rfl
  have d2 := bD2.cell 0 rfl
  obtain ⟨F, hF⟩ : ∃ F, lkS ns k dss 0 = F := ⟨_, rfl⟩
  unfold lkN
  rw [hF] at hlk ⊢
  replace hlk := Lib.hid hlk
  clear hF hd hu hv
  simp only [List.append_toArray, List.cons_append, List.nil_append]
  go_enter Try.func39, Try.ntmps39
  go_wp2_with fail
  refine hlk.out.mono ?_
  rintro e W' ⟨rfl, hb⟩
  clear f0 c0 d0 d1 d2
  go_wp2
  go_ret
  exact ⟨rfl, ⟨_, bP2.grown hb⟩, bD2.grown hb, hB2.trans (hb.mono hB2.size)⟩

def LeastPost (sup : Int) (ns : List Nd) (dss : List (List Int)) (w : World) (e : Ending) (w' : World) : Prop :=
  Below w.heap.size w w' ∧ (caF sup ns dss ≠ 0 → e = .returned (.tuple #[.int .i64 0, .bool false, .int .i64 (caF sup ns dss)])) ∧
    (caF sup ns dss = 0 → ∃ k : Nat, k ≤ 1000000001 ∧ (∀ j, j + 1 = k → lkN ns dss j = true) ∧ (k < 1000000001 → lkN ns dss k = false) ∧
      ((k = 1000000001 ∧ e = .returned (.tuple #[.int .i64 0, .bool false, .int .i64 0])) ∨ (k < 1000000001 ∧ e = .returned (.tuple #[.int .i64 k, .bool true, .int .i64 0]))))

set_option maxRecDepth 100000 in
set_option maxHeartbeats 4000000 in
theorem Least_any (sup : Int) (v : Value) (ns : List Nd) (u : Value) (dss : List (List Int)) (w : World) (hv : NdSl w v ns) (hu : SlSl w u dss) (hf : DssFit ns dss) :
    Calls Try.prog 14 #[plV sup v, u] w (LeastPost sup ns dss w) := by
  have hB := ((Below.refl w.heap.size w).alloc (Nat.le_refl _) (.cells #[.int .i64 sup, v] 24)).alloc (by simp) (.cells #[u] 25)
  have bP := (BoxC.new w 24 #[.int .i64 sup, v]).alloc (.cells #[u] 25)
  have bD := BoxC.new (w.alloc (.cells #[.int .i64 sup, v] 24)) 25 #[u]
  rw [World.size_alloc] at bD
  have hck := checkAll_any sup v ns u dss _ (hv.mono hB) (hu.mono hB) hf
  obtain ⟨av, cv, rfl⟩ := hv.len
  obtain ⟨au, cu, rfl⟩ := hu.len
  unfold LeastPost
  obtain ⟨d, hd⟩ : ∃ d, caF sup ns dss = d := ⟨_, rfl⟩
  rw [hd] at hck ⊢
  replace hck := Lib.hid hck
  have hok : d = 0 → PlOk ns ∧ dss.length ≤ 1000 ∧ DssOk ns dss := fun h0 => (caF_ok (hd.trans h0)).2
  clear hd
  have hsr := fun (h0 : d = 0) (W : World) (hJ : LeastJ w w.heap.size (w.heap.size + 1) (.slice av ns.length cv) (.slice au dss.length cu) W) =>
    search_any 39 #[.pointer (some ⟨w.heap.size, 0, none⟩), .pointer (some ⟨w.heap.size + 1, 0, none⟩)] (LeastJ w w.heap.size (w.heap.size + 1) (.slice av ns.length cv) (.slice au dss.length cu)) (fun k => !lkN ns dss k) 1000000001 W (by omega) hJ
      (fun k W' hk hJ' => least1_any w _ _ _ _ ns dss hv hu (hok h0).1 (hok h0).2.2 (hok h0).2.1 (Nat.le_refl _) (Nat.lt_succ_self _) k W' hk hJ') (enters_of Try.func39 (by kernel_rfl) rfl)
  clear hok
  by_cases h0 : d = 0
  · subst h0
    replace hsr := Lib.hid (hsr rfl)
    go_enter Try.func14, Try.ntmps14
    go_wp2_with fail
    refine hck.out.mono ?_
    rintro e w1 ⟨rfl, hb⟩
    have bP1 := bP.grown hb
    have bD1 := bD.grown hb
    have c0 := bP1.cell 0 rfl
    have c1 := bP1.cell 1 rfl
    have c2 := bD1.cell 0 rfl
    go_wp2_with fail
    refine (hsr.out w1 ⟨⟨_, bP1⟩, bD1, hB.trans (hb.mono hB.size)⟩).mono ?_
    rintro e w2 ⟨k, hk, rfl, h1, h2, _, _, hB2⟩
    clear c0 c1 c2 hsr hck
    replace h1 := Lib.hid h1
    replace h2 := Lib.hid h2
    by_cases hke : k = 1000000001
    · subst hke
      go_wp2
      refine bodyPost_ret (v := .tuple #[.int .i64 0, .bool false, .int .i64 0]) (by simp [results, Try.results14, go_sem]) rfl ⟨hB2, fun h => absurd rfl h, fun _ => ⟨1000000001, hk, fun j hj => by simpa using h1.out j hj, fun h => absurd h (Nat.lt_irrefl _), .inl ⟨rfl, rfl⟩⟩⟩
    · have hk3 : k < 1000000001 := by omega
      go_wp2
      refine bodyPost_ret (v := .tuple #[.int .i64 k, .bool true, .int .i64 0]) (by simp [results, Try.results14, go_sem]) rfl ⟨hB2, fun h => absurd rfl h, fun _ => ⟨k, hk, fun j hj => by simpa using h1.out j hj, fun h => by simpa using h2.out h, .inr ⟨hk3, rfl⟩⟩⟩
  · obtain ⟨g1, g2⟩ := neq_of h0
    go_enter Try.func14, Try.ntmps14
    go_wp2_with fail
    refine hck.out.mono ?_
    rintro e w1 ⟨rfl, hb⟩
    go_wp2
    exact bodyPost_ret (v := .tuple #[.int .i64 0, .bool false, .int .i64 d]) (by simp [results, Try.results14, go_sem]) rfl ⟨hB.trans (hb.mono hB.size), fun _ => rfl, fun h => absurd h h0⟩
end Go.Proofs.Ytfefocgekmeahaa
