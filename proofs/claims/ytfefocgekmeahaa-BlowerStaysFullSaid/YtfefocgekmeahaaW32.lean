/- Rows of nodes: their cells, a copy of them, and nodes that are full. Conditions: at most 1000 nodes. -/
import Derived.Test.YtfefocgekmeahaaW25
import Derived.Test.YtfefocgekmeahaaP7
namespace Go.Proofs.Ytfefocgekmeahaa
open Go.RowKit Go.Shelf

theorem NumSl.lenV {K : IntKind} {w : World} {v : Value} {xs : List Int} {n : Nat} (h : NumSl K w v xs) (hl : xs.length = n) : ∃ a cap, v = .slice a n cap := by subst hl; exact h.len
theorem caF_of {sup : Int} {ns : List Nd} {dss : List (List Int)} (h : ckF sup ns = 0) (h1 : dss.length ≤ 8) : caF sup ns dss = caS ns dss 0 := by
  unfold caF
  rw [if_neg (by simp [h]), if_neg (by omega)]
theorem sameL_refl (xs : List Int) : sameL xs xs = true := by
  unfold sameL
  simp
theorem info42n : (Try.prog.info? 42).map (fun i => (i.zero, i.size, i.bytes)) = some (some (.agg #[.int .i64 0, .int .i64 0, .int .i64 0, .int .i64 0]), 4, 32) := by kernel_rfl
def ndL (x : Nd) : List Value := [.int .i64 x.p, .int .i64 x.m, .int .i64 x.c, .int .i64 x.l]
def ndCs (ns : List Nd) : List Value := (ns.map ndL).flatten
theorem ndCs_len (ns : List Nd) : (ndCs ns).length = ns.length * 4 := by
  induction ns with
  | nil => rfl
  | cons x ns ih => simp only [ndCs, List.map_cons, List.flatten_cons, List.length_append, List.length_cons] at ih ⊢; rw [ih]; simp [ndL]; omega
theorem ndCs_at : ∀ (ns : List Nd) (i j : Nat), i < ns.length → j < 4 → (ndCs ns)[i * 4 + j]? = (ndL (nd ns i))[j]?
  | [], i, j, h, _ => by simp at h
  | y :: ns, 0, j, h, hj => by
    have : ndCs (y :: ns) = ndL y ++ ndCs ns := rfl
    rw [this, List.getElem?_append_left (by simp [ndL]; omega)]
    simp [nd]
  | y :: ns, i + 1, j, h, hj => by
    have ih := ndCs_at ns i j (by simpa using h) hj
    have : ndCs (y :: ns) = ndL y ++ ndCs ns := rfl
    have hn : nd (y :: ns) (i + 1) = nd ns i := by simp [nd]
    rw [this, List.getElem?_append_right (by simp [ndL]; omega), hn, ← ih]
    congr 1
    simp [ndL]
    omega
theorem ndL_one (ns : List Nd) : ∀ u ∈ ndCs ns, u.oneCell' = true := by
  intro u hu
  simp only [ndCs, List.mem_flatten, List.mem_map] at hu
  obtain ⟨l, ⟨x, _, rfl⟩, hu⟩ := hu
  simp [ndL] at hu
  rcases hu with rfl | rfl | rfl | rfl <;> simp [Value.oneCell']
theorem nd_news {w : World} {b off cap : Nat} {ns : List Nd} (h : NdSl w (.slice (some ⟨b, off, none⟩) ns.length cap) ns) (hn : 0 < ns.length) : ∀ (j : Nat) (u : Value), (ndCs ns)[j]? = some u → w.cell? ((⟨b, off, none⟩ : Addr).add j) = some u := by
  intro j u hu
  rw [WideShapes.add_plain]
  obtain ⟨b', off', cap', he, hc⟩ := h.at hn
  cases he
  have hj : j < (ndCs ns).length := by
    rcases Nat.lt_or_ge j (ndCs ns).length with h1 | h1
    · exact h1
    · rw [List.getElem?_eq_none h1] at hu; cases hu
  rw [ndCs_len] at hj
  obtain ⟨i, r, rfl, hr⟩ : ∃ i r, j = i * 4 + r ∧ r < 4 := ⟨j / 4, j % 4, by omega, by omega⟩
  rw [ndCs_at ns i r (by omega) hr] at hu
  obtain ⟨h1, h2, h3, h4⟩ := hc i (by omega)
  show w.cell? ⟨b, off + (i * 4 + r), none⟩ = some u
  rw [← Nat.add_assoc]
  match r, hr with
  | 0, _ => simp [ndL] at hu; subst hu; exact h1
  | 1, _ => simp [ndL] at hu; subst hu; exact h2
  | 2, _ => simp [ndL] at hu; subst hu; exact h3
  | 3, _ => simp [ndL] at hu; subst hu; exact h4

/-- block g reads as n nodes, the i-th one f i -/
def NdB (W : World) (g n : Nat) (f : Nat → Nd) : Prop := ∃ cs : Array Value, BoxC W g 42 cs ∧ ∀ i, i < n → ∀ j, j < 4 → cs[i * 4 + j]? = (ndL (f i))[j]?
section
variable {W W' : World} {g n : Nat} {f : Nat → Nd}
theorem NdB.lt (h : NdB W g n f) : g < W.heap.size := by obtain ⟨cs, h1, _⟩ := h; exact h1.lt
theorem NdB.grown (h : NdB W g n f) (hb : Below W.heap.size W W') : NdB W' g n f := by obtain ⟨cs, h1, h2⟩ := h; exact ⟨cs, h1.grown hb, h2⟩
theorem NdB.cell (h : NdB W g n f) {i : Nat} (hi : i < n) : W.cell? ⟨g, i * 4, none⟩ = some (.int .i64 (f i).p) ∧ W.cell? ⟨g, i * 4 + 1, none⟩ = some (.int .i64 (f i).m) ∧ W.cell? ⟨g, i * 4 + 2, none⟩ = some (.int .i64 (f i).c) ∧ W.cell? ⟨g, i * 4 + 3, none⟩ = some (.int .i64 (f i).l) := by
  obtain ⟨cs, h1, h2⟩ := h
  exact ⟨h1.cell _ ((h2 i hi 0 (by decide)).trans rfl), h1.cell _ ((h2 i hi 1 (by decide)).trans rfl), h1.cell _ ((h2 i hi 2 (by decide)).trans rfl), h1.cell _ ((h2 i hi 3 (by decide)).trans rfl)⟩
theorem NdB.frozen (h : NdB W g n f) (i : Nat) : W.frozen? ⟨g, i, none⟩ = false := by obtain ⟨cs, h1, _⟩ := h; exact h1.frozen i
theorem NdB.set (h : NdB W g n f) {i : Nat} (hi : i < n) (z : Int) : NdB (W.setCell ⟨g, i * 4 + 3, none⟩ (.int .i64 z)) g n (fun j => if j = i then { f i with l := z } else f j) := by
  obtain ⟨cs, h1, h2⟩ := h
  refine ⟨_, h1.set (i * 4 + 3) _, fun k hk j hj => ?_⟩
  have h3 := h2 k hk j hj
  rw [Array.getElem?_setIfInBounds]
  have hlt : i * 4 + 3 < cs.size := by
    have := h2 i hi 3 (by decide)
    rw [show (ndL (f i))[3]? = some (.int .i64 (f i).l) from rfl] at this
    exact (Array.getElem?_eq_some_iff.1 this).1
  by_cases he : i * 4 + 3 = k * 4 + j
  · obtain rfl : k = i := by omega
    obtain rfl : j = 3 := by omega
    simp [ndL, hlt]
  · rw [if_neg he, h3]
    by_cases hki : k = i
    · subst hki
      simp only [if_pos]
      match j, hj with
      | 0, _ => rfl
      | 1, _ => rfl
      | 2, _ => rfl
      | 3, _ => exact absurd rfl he
    · simp only [if_neg hki]
theorem NdB.congr {f' : Nat → Nd} (h : NdB W g n f) (he : ∀ i, i < n → f i = f' i) : NdB W g n f' := by
  obtain ⟨cs, h1, h2⟩ := h
  exact ⟨cs, h1, fun i hi j hj => by rw [← he i hi]; exact h2 i hi j hj⟩
theorem NdB.other (h : NdB W g n f) {p : Addr} (hne : g ≠ p.block) (u : Value) : NdB (W.setCell p u) g n f := by obtain ⟨cs, h1, h2⟩ := h; exact ⟨cs, h1.other hne u, h2⟩
theorem NdB.sl {ns : List Nd} {cap : Nat} (h : NdB W g ns.length (nd ns)) : NdSl W (.slice (some ⟨g, 0, none⟩) ns.length cap) ns :=
  .inr ⟨g, 0, cap, rfl, fun i hi => by obtain ⟨h1, h2, h3, h4⟩ := h.cell hi; simp only [Nat.zero_add]; exact ⟨h1, h2, h3, h4⟩⟩
end

/-- a copy of nodes behind an empty list -/
theorem run_copy22 (ad : Addr) (av : Option Addr) (cv : Nat) (ns : List Nd) (X : World) (hv : NdSl X (.slice av ns.length cv) ns) (hn : ns.length ≤ 1000) :
    ∃ a c X', (Builtin.append_ #[22, 22] 22 #[.slice (some ad) 0 0, .slice av ns.length cv]).run Try.prog X = .ok (.slice a ns.length c) X' ∧ Below X.heap.size X X' ∧ (0 < ns.length → ∃ g, a = some ⟨g, 0, none⟩ ∧ X.heap.size ≤ g ∧ NdB X' g ns.length (nd ns)) := by
  obtain ⟨i0, hi, hz0, hz1, hz2⟩ := info_parts info42n
  rcases Nat.eq_zero_or_pos ns.length with h0 | h0
  · rw [h0]
    refine ⟨some ad, 0, X, ?_, Below.refl _ _, fun h => absurd h (by decide)⟩
    cases av <;> simp [Builtin.append_, run_underlying Try.underlying22, sizeOf, typeInfo, hi, Builtin.lenOf, Builtin.firstCells, loadCells, loadCellsFrom, storeCells]
  · obtain ⟨b, off, cap, he, hc⟩ := hv.at h0
    cases he
    obtain ⟨v', X', hr, q1, q2⟩ := run_append_arg_grows (P := Try.prog) X 22 22 42 i0 _ 4 32 Try.underlying22 hi hz0 hz1 hz2 rfl (by decide) ad 0 0 [] rfl (by simp) ⟨b, off, none⟩ ns.length cv (ndCs ns) (ndCs_len ns) (nd_news hv h0) (by omega) (by unfold maxLen; omega) (by omega)
    rw [Nat.zero_add, List.nil_append] at q1
    obtain ⟨q3, ⟨_, q4⟩ | ⟨g, cap, cur, rfl, h1, h2, _, _, _, h5⟩⟩ := q1
    · omega
    · refine ⟨_, cap, X', hr, ⟨q2.os, q2.tape, q2.output, q2.size, fun k hk => q2.block k hk (by simp)⟩, fun _ => ⟨g, rfl, h1, cur, h2, fun i hi j hj => ?_⟩⟩
      rw [← ndCs_at ns i j hi hj, ← h5, List.getElem?_take, if_pos (by omega), Array.getElem?_toList]

/-- the nodes, full -/
def fullN (ns : List Nd) : List Nd := ns.map (fun x => { x with l := x.c })
theorem fullN_len (ns : List Nd) : (fullN ns).length = ns.length := by simp [fullN]
theorem nd_fullN {ns : List Nd} {i : Nat} (h : i < ns.length) : nd (fullN ns) i = { nd ns i with l := (nd ns i).c } := by simp [nd, fullN, h]
theorem fullN_ok {ns : List Nd} (hp : PlOk ns) : PlOk (fullN ns) := by
  refine ⟨by rw [fullN_len]; exact hp.len, ?_, ?_, ?_, ?_⟩ <;> intro k hk <;> rw [fullN_len] at hk <;> rw [nd_fullN hk]
  · exact hp.p k hk
  · exact hp.m k hk
  · exact hp.c k hk
  · exact ⟨(hp.c k hk).1, Int.le_refl _⟩
theorem ckS_of {ns : List Nd} (hp : PlOk ns) : ∀ r k : Nat, r = ns.length - k → ckS ns k = 0
  | 0, k, h => ckS_end (by omega)
  | r + 1, k, h => by
    have hk : k < ns.length := by omega
    have h1 := hp.m k hk
    have h2 := hp.c k hk
    have h3 := hp.l k hk
    rw [ckS_next hk (hp.p k hk) ⟨h1, h2, by omega⟩ (by omega)]
    exact ckS_of hp r (k + 1) (by omega)
theorem ckF_of {sup : Int} {ns : List Nd} (hp : PlOk ns) (h0 : 0 ≤ sup) (h1 : sup ≤ 1000000000) : ckF sup ns = 0 := by
  unfold ckF
  rw [if_neg (by omega), if_neg (by have := hp.len; omega)]
  exact ckS_of hp ns.length 0 (by omega)
theorem deF_full {ns : List Nd} {d : List Int} : deF (fullN ns) d = deF ns d := by unfold deF; rw [fullN_len]
/-- a run of a full plant with a demand that it can give forever -/
theorem full_run {ns : List Nd} {sup : Int} {dm : List Int} {dss : List (List Int)} (hp : PlOk ns) (hs : 0 ≤ sup) (hfull : ∀ j, j < ns.length → (nd ns j).l = (nd ns j).c) (hd : DssOk ns dss) (he : ∀ k, k < dss.length → nths dss k = dm) (hb : (btF ns sup dm 1000).2 = false) :
    ∀ k, k ≤ dss.length → (runT ns sup dss k).lv = lvs ns ∧ (0 < k → ∀ j, nth (runT ns sup dss k).lk j = 0)
  | 0, _ => ⟨rfl, fun h => absurd h (by decide)⟩
  | k + 1, hk => by
    obtain ⟨ih, _⟩ := full_run hp hs hfull hd he hb k (by omega)
    have hok := runT_ok hp hs hd (k := k) (by omega)
    rw [ih, he k (by omega)] at hok
    have hdm : DmOk ns dm := by have := hd k (by omega); rwa [he k (by omega)] at this
    obtain ⟨h1, h2⟩ := stays_full hp (lvOk_lvs hp) (fun j hj => by rw [nth_lvs hj]; exact hfull j hj) hdm hb hok
    refine ⟨ext_nth (by rw [hok.l1, lvs_len]) (fun j hj => h1 j (by rw [hok.l1] at hj; exact hj)), fun _ => h2⟩
end Go.Proofs.Ytfefocgekmeahaa
