/- Rows of a call's own, told apart by roles: reading, storing, appending, cutting. Lemmas on worlds; no program. Conditions: none. -/
import Derived.Test.YtgnamahdchefnaaNums
import Derived.ArgAppend
namespace Go.Proofs.Ytgnamahdchefnaa
open Go.RowKit Go.Shelf

abbrev Role := Nat × Nat × Nat
/-- v is a slice of n elements of size cells each; the cells read C; if it has room it lies in a block of role r, from lo on -/
def RowX (lo : Nat) (κ : Nat → Role) (r : Role) (e : TypeId) (size : Nat) (v : Value) (n : Nat) (C : Nat → Value) (w : World) : Prop :=
  (n = 0 ∧ ∃ a, v = .slice a 0 0) ∨ ∃ g off cap cur, v = .slice (some ⟨g, off, none⟩) n cap ∧ κ g = r ∧ lo ≤ g ∧ w.heap[g]? = some (.cells cur e (0, 0)) ∧ n ≤ cap ∧ cap ≤ maxLen ∧ off + cap * size ≤ cur.size ∧ ∀ k, k < n * size → cur[off + k]? = some (C k)
/-- blocks below lo, and those whose role is not in R, lie as they lay -/
structure Fr (lo : Nat) (κ : Nat → Role) (R : Role → Prop) (w w' : World) : Prop where
  os : w'.os = w.os
  tape : w'.tape = w.tape
  output : w'.output = w.output
  size : w.heap.size ≤ w'.heap.size
  block : ∀ b, b < w.heap.size → (b < lo ∨ ¬ R (κ b)) → w'.heap[b]? = w.heap[b]?
section
variable {lo : Nat} {κ : Nat → Role} {R : Role → Prop} {w w' w'' : World}
theorem Fr.refl (lo : Nat) (κ : Nat → Role) (R : Role → Prop) (w : World) : Fr lo κ R w w := ⟨rfl, rfl, rfl, Nat.le_refl _, fun _ _ _ => rfl⟩
theorem Fr.trans (h : Fr lo κ R w w') (g : Fr lo κ R w' w'') : Fr lo κ R w w'' :=
  ⟨g.os.trans h.os, g.tape.trans h.tape, g.output.trans h.output, Nat.le_trans h.size g.size, fun b hb hR => (g.block b (Nat.lt_of_lt_of_le hb h.size) hR).trans (h.block b hb hR)⟩
theorem Fr.mono {R' : Role → Prop} (h : Fr lo κ R w w') (hR : ∀ r, R r → R' r) : Fr lo κ R' w w' :=
  ⟨h.os, h.tape, h.output, h.size, fun b hb h1 => h.block b hb (h1.imp id (fun h2 h3 => h2 (hR _ h3)))⟩
theorem Fr.of (h : Below w.heap.size w w') : Fr lo κ R w w' := ⟨h.os, h.tape, h.output, h.size, fun b hb _ => h.block b hb⟩
theorem Fr.below (h : Fr lo κ R w w') (hlo : lo ≤ w.heap.size) : Below lo w w' := ⟨h.os, h.tape, h.output, h.size, fun b hb => h.block b (by omega) (.inl hb)⟩
theorem Fr.alloc (h : Fr lo κ R w w') (o : Obj) : Fr lo κ R w (w'.alloc o) := h.trans (.of ((Below.refl _ _).alloc (Nat.le_refl _) o))
theorem Fr.drew (h : Fr lo κ R w w') : Fr lo κ R w w'.drew := ⟨h.os, h.tape, h.output, h.size, h.block⟩
theorem Fr.set {g : Nat} (hg : lo ≤ g) (hR : R (κ g)) (i : Nat) (u : Value) : Fr lo κ R w (w.setCell ⟨g, i, none⟩ u) :=
  ⟨rfl, rfl, rfl, (KeepsWalks.setCell w _ u).size, fun b _ h => Below.heap_setCell w _ u b (fun e => by
    have e' : b = g := e
    subst e'
    rcases h with h | h
    · omega
    · exact h hR)⟩
/-- the same under roles that agree on the old blocks -/
theorem Fr.rekey {κ' : Nat → Role} {R' : Role → Prop} (h : Fr lo κ R w w') (hk : ∀ b, b < w.heap.size → lo ≤ b → R (κ b) → R' (κ' b)) : Fr lo κ' R' w w' :=
  ⟨h.os, h.tape, h.output, h.size, fun b hb h1 => h.block b hb (by
    rcases h1 with h1 | h1
    · exact .inl h1
    · rcases Nat.lt_or_ge b lo with h2 | h2
      · exact .inl h2
      · exact .inr (fun h3 => h1 (hk b hb h2 h3)))⟩
end
section
variable {lo : Nat} {κ κ' : Nat → Role} {r r' : Role} {e : TypeId} {size n : Nat} {v : Value} {C C' : Nat → Value} {w w' : World}
theorem RowX.len (h : RowX lo κ r e size v n C w) : ∃ a cap, v = .slice a n cap := by
  rcases h with ⟨rfl, a, rfl⟩ | ⟨g, off, cap, cur, rfl, _⟩
  · exact ⟨a, 0, rfl⟩
  · exact ⟨_, cap, rfl⟩
theorem RowX.nil (lo : Nat) (κ : Nat → Role) (r : Role) (e : TypeId) (size : Nat) (C : Nat → Value) (w : World) : RowX lo κ r e size (.slice none 0 0) 0 C w := .inl ⟨rfl, none, rfl⟩
theorem RowX.heap (h : RowX lo κ r e size v n C w) (hh : ∀ g cur, lo ≤ g → κ g = r → w.heap[g]? = some (.cells cur e (0, 0)) → w'.heap[g]? = w.heap[g]?) : RowX lo κ r e size v n C w' := by
  rcases h with h | ⟨g, off, cap, cur, h1, h2, h3, h4, h5⟩
  · exact .inl h
  · exact .inr ⟨g, off, cap, cur, h1, h2, h3, (hh g cur h3 h2 h4).trans h4, h5⟩
theorem RowX.fr {R : Role → Prop} (h : RowX lo κ r e size v n C w) (hf : Fr lo κ R w w') (hR : ¬ R r) : RowX lo κ r e size v n C w' :=
  h.heap (fun g _ _ h2 h3 => hf.block g (heap_lt h3) (.inr (by rw [h2]; exact hR)))
theorem RowX.below (h : RowX lo κ r e size v n C w) (hb : Below w.heap.size w w') : RowX lo κ r e size v n C w' := h.heap (fun g _ _ _ h3 => hb.block g (heap_lt h3))
theorem RowX.alloc (h : RowX lo κ r e size v n C w) (o : Obj) : RowX lo κ r e size v n C (w.alloc o) := h.below ((Below.refl _ _).alloc (Nat.le_refl _) o)
theorem RowX.drew (h : RowX lo κ r e size v n C w) : RowX lo κ r e size v n C w.drew := h
theorem RowX.rekey (h : RowX lo κ r e size v n C w) (hk : ∀ b, lo ≤ b → b < w.heap.size → κ b = r → κ' b = r') : RowX lo κ' r' e size v n C w := by
  rcases h with h | ⟨g, off, cap, cur, h1, h2, h3, h4, h5⟩
  · exact .inl h
  · exact .inr ⟨g, off, cap, cur, h1, hk g h3 (heap_lt h4) h2, h3, h4, h5⟩
theorem RowX.low {lo' : Nat} (h : RowX lo κ r e size v n C w) (hl : lo' ≤ lo) : RowX lo' κ r e size v n C w := by
  rcases h with h | ⟨g, off, cap, cur, h1, h2, h3, h4, h5⟩
  · exact .inl h
  · exact .inr ⟨g, off, cap, cur, h1, h2, by omega, h4, h5⟩
theorem RowX.congr (h : RowX lo κ r e size v n C w) (hC : ∀ k, k < n * size → C k = C' k) : RowX lo κ r e size v n C' w := by
  rcases h with h | ⟨g, off, cap, cur, h1, h2, h3, h4, h5, h6, h7, h8⟩
  · exact .inl h
  · exact .inr ⟨g, off, cap, cur, h1, h2, h3, h4, h5, h6, h7, fun k hk => by rw [← hC k hk]; exact h8 k hk⟩
/-- a store into a box of another type -/
theorem RowX.box {B : Nat} {t : TypeId} {cs : Array Value} (h : RowX lo κ r e size v n C w) (hB : BoxC w B t cs) (ht : t ≠ e) (i : Nat) (u : Value) : RowX lo κ r e size v n C (w.setCell ⟨B, i, none⟩ u) :=
  h.heap (fun g cur _ _ h3 => Below.heap_setCell w _ u g (fun e' => by
    have e2 : g = B := e'
    subst e2
    rw [show w.heap[g]? = _ from hB] at h3
    cases h3
    exact ht rfl))
theorem RowX.at (h : RowX lo κ r e size v n C w) (hn : 0 < n) : ∃ g off cap, v = .slice (some ⟨g, off, none⟩) n cap ∧ lo ≤ g ∧ κ g = r ∧ g < w.heap.size ∧ (∀ k, k < n * size → w.cell? ⟨g, off + k, none⟩ = some (C k)) ∧ ∀ k, w.frozen? ⟨g, k, none⟩ = false := by
  rcases h with ⟨h, _⟩ | ⟨g, off, cap, cur, h1, h2, h3, h4, h5, h6, h7, h8⟩
  · omega
  · exact ⟨g, off, cap, h1, h3, h2, heap_lt h4, fun k hk => by rw [cell_of_row w g _ cur e (0, 0) h4]; exact h8 k hk, fun k => frozen_of_row w g k cur e h4⟩
/-- one cell stored -/
theorem RowX.set {g off cap : Nat} (h : RowX lo κ r e size (.slice (some ⟨g, off, none⟩) n cap) n C w) (hn : 0 < n) (k : Nat) (u : Value) : RowX lo κ r e size (.slice (some ⟨g, off, none⟩) n cap) n (fun j => if j = k then u else C j) (w.setCell ⟨g, off + k, none⟩ u) := by
  rcases h with ⟨h, _⟩ | ⟨g', off', cap', cur, h1, h2, h3, h4, h5, h6, h7, h8⟩
  · omega
  · cases h1
    refine .inr ⟨g, off, cap, cur.setIfInBounds (off + k) u, rfl, h2, h3, heap_setCell_same w g (off + k) cur e u h4, h5, h6, by simpa using h7, fun j hj => ?_⟩
    have hj8 := h8 j hj
    have hlt : off + j < cur.size := (Array.getElem?_eq_some_iff.1 hj8).1
    show _ = some (if j = k then u else C j)
    by_cases hjk : j = k
    · subst hjk
      rw [if_pos rfl, Array.getElem?_setIfInBounds, if_pos rfl, if_pos hlt]
    · rw [if_neg hjk, Array.getElem?_setIfInBounds, if_neg (by omega)]
      exact hj8
theorem RowX.take {g off cap m : Nat} (h : RowX lo κ r e size (.slice (some ⟨g, off, none⟩) n cap) n C w) (hm : m ≤ n) (hn : 0 < n) : RowX lo κ r e size (.slice (some ⟨g, off, none⟩) m cap) m C w := by
  rcases h with ⟨h, _⟩ | ⟨g', off', cap', cur, h1, h2, h3, h4, h5, h6, h7, h8⟩
  · omega
  · cases h1
    exact .inr ⟨g, off, cap, cur, rfl, h2, h3, h4, by omega, h6, h7, fun k hk => h8 k (Nat.lt_of_lt_of_le hk (Nat.mul_le_mul_right _ hm))⟩
theorem RowX.drop {g off cap m : Nat} (h : RowX lo κ r e size (.slice (some ⟨g, off, none⟩) n cap) n C w) (hm : m ≤ n) (hn : 0 < n) : RowX lo κ r e size (.slice (some ⟨g, off + m * size, none⟩) (n - m) (cap - m)) (n - m) (fun k => C (m * size + k)) w := by
  rcases h with ⟨h, _⟩ | ⟨g', off', cap', cur, h1, h2, h3, h4, h5, h6, h7, h8⟩
  · omega
  · cases h1
    have hc : m * size + (cap - m) * size = cap * size := by rw [← Nat.add_mul]; congr 1; omega
    have hd : m * size + (n - m) * size = n * size := by rw [← Nat.add_mul]; congr 1; omega
    exact .inr ⟨g, off + m * size, cap - m, cur, rfl, h2, h3, h4, by omega, by omega, by omega, fun k hk => by rw [show off + m * size + k = off + (m * size + k) by omega]; exact h8 _ (by omega)⟩
/-- a row of the call's own, as the kit has it -/
theorem RowX.own {xs : List Value} (h : w.ownsRow lo e size v n xs) (hk : ∀ b, lo ≤ b → κ b = r) : RowX lo κ r e size v n (fun k => (xs[k]?).getD undef) w := by
  obtain ⟨hl, h | ⟨g, cap, cur, h1, h2, h3, h4, h5, h6, h7⟩⟩ := h
  · exact .inl ⟨h.2, none, by rw [h.1]⟩
  · refine .inr ⟨g, 0, cap, cur, h1, hk g h2, h2, h3, h4, h5, by omega, fun k hk => ?_⟩
    have hkl : k < xs.length := by omega
    show cur[0 + k]? = some ((xs[k]?).getD undef)
    rw [Nat.zero_add, List.getElem?_eq_getElem hkl]
    have := congrArg (fun l : List Value => l[k]?) h7
    simp only [List.getElem?_take, if_pos hk] at this
    rw [List.getElem?_eq_getElem hkl] at this
    simpa using this
theorem heap_setCells_other (g : Nat) : ∀ (us : List Value) (o : Nat) (w : World) (b : Nat), b ≠ g → (w.setCells g o us).heap[b]? = w.heap[b]?
  | [], _, _, _, _ => rfl
  | u :: us, o, w, b, h => by
    rw [World.setCells, heap_setCells_other g us _ _ b h]
    exact Below.heap_setCell w _ u b h
theorem grown_setCells (g : Nat) : ∀ (us : List Value) (o : Nat) (w : World), w.grownBy (w.setCells g o us) (some g)
  | [], _, _ => ⟨rfl, rfl, rfl, Nat.le_refl _, fun _ _ _ => rfl⟩
  | u :: us, o, w => by
    have h := grown_setCells g us (o + 1) (w.setCell ⟨g, o, none⟩ u)
    have h0 := grownBy_setCell w ⟨g, o, none⟩ u
    exact ⟨h.os.trans h0.os, h.tape.trans h0.tape, h.output.trans h0.output, Nat.le_trans h0.size h.size, fun k hk hne => (h.block k (Nat.lt_of_lt_of_le hk h0.size) hne).trans (h0.block k hk hne)⟩
theorem heap_setCells_same (g : Nat) (e : TypeId) : ∀ (us : List Value) (o : Nat) (cur : Array Value) (w : World), w.heap[g]? = some (.cells cur e (0, 0)) → o + us.length ≤ cur.size →
    ∃ cur' : Array Value, (w.setCells g o us).heap[g]? = some (.cells cur' e (0, 0)) ∧ cur'.size = cur.size ∧ ∀ j, cur'[j]? = if o ≤ j ∧ j < o + us.length then us[j - o]? else cur[j]?
  | [], o, cur, w, h, _ => ⟨cur, h, rfl, fun j => by rw [if_neg (by rw [List.length_nil]; omega)]⟩
  | u :: us, o, cur, w, h, hs => by
    have hs' : o + (us.length + 1) ≤ cur.size := by simpa using hs
    obtain ⟨cur', h1, h2, h3⟩ := heap_setCells_same g e us (o + 1) (cur.setIfInBounds o u) (w.setCell ⟨g, o, none⟩ u) (heap_setCell_same w g o cur e u h) (by simp; omega)
    refine ⟨cur', h1, by simpa using h2, fun j => ?_⟩
    rw [h3 j, List.length_cons]
    by_cases a : o + 1 ≤ j ∧ j < o + 1 + us.length
    · rw [if_pos a, if_pos (by omega), show j - o = (j - (o + 1)) + 1 by omega]
      simp
    · rw [if_neg a, Array.getElem?_setIfInBounds]
      by_cases b : o = j
      · subst b
        rw [if_pos rfl, if_pos (by omega), if_pos (by omega)]
        simp
      · rw [if_neg b, if_neg (by omega)]
/-- every block from N on has the role r -/
def kfrom (κ : Nat → Role) (N : Nat) (r : Role) : Nat → Role := fun b => if N ≤ b then r else κ b
theorem kfrom_old {N b : Nat} (h : b < N) : kfrom κ N r b = κ b := by unfold kfrom; rw [if_neg (by omega)]
theorem kfrom_new {N b : Nat} (h : N ≤ b) : kfrom κ N r b = r := by unfold kfrom; rw [if_pos h]
theorem RowX.kf (h : RowX lo κ r e size v n C w) : RowX lo (kfrom κ w.heap.size r') r e size v n C w := h.rekey (fun _ _ hb h => (kfrom_old hb).trans h)
/-- blocks of other types than e lie as they lay -/
def Oth (e : TypeId) (w w' : World) : Prop := ∀ (b : Nat) (cs : Array Value) (t : TypeId) (fr : Nat × Nat), w.heap[b]? = some (.cells cs t fr) → t ≠ e → w'.heap[b]? = w.heap[b]?
theorem Oth.of (e : TypeId) {w w' : World} (h : Below w.heap.size w w') : Oth e w w' := fun b _ _ _ h1 _ => h.block b (heap_lt h1)
theorem BoxC.oth {e : TypeId} {w w' : World} {B : Nat} {t : TypeId} {cs : Array Value} (h : BoxC w B t cs) (ho : Oth e w w') (ht : t ≠ e) : BoxC w' B t cs := (ho B cs t (0, 0) h ht).trans h
def capp (C : Nat → Value) (m : Nat) (news : List Value) : Nat → Value := fun k => if k < m then C k else (news[k - m]?).getD undef
/-- one element more -/
theorem run_appX {P : Program} (w : World) (t ty e : TypeId) (i : TypeInfo) (z : Value) (size bytes : Nat) (ht : P.underlying t = some (.slice e)) (hi : P.info? e = some i) (hz : i.zero = some z)
    (hsize : i.size = size) (hby : i.bytes = bytes) (hzs : z.cells.size = size) (hsz : 0 < size) {lo : Nat} {κ : Nat → Role} {r : Role} {v : Value} {n : Nat} {C : Nat → Value} (h : RowX lo κ r e size v n C w) (hlo : lo ≤ w.heap.size)
    (ad : Addr) (c : Nat) (news : List Value) (hl : news.length = 1 * size) (hnews : ∀ j u, news[j]? = some u → w.cell? (ad.add j) = some u) (h1 : ∀ u ∈ news, u.oneCell' = true) (h63 : n + 1 ≤ maxLen) (hbytes : (n + 1) * bytes ≤ 140737488355328) :
    ∃ v' w', (Builtin.append_ #[t, t] ty #[v, .slice (some ad) 1 c]).run P w = .ok v' w' ∧ RowX lo (Go.Proofs.Ytgnamahdchefnaa.kfrom κ w.heap.size r) r e size v' (n + 1) (capp C (n * size) news) w' ∧ Fr lo κ (fun x => x = r) w w' ∧ Oth e w w' := by
  have big : ∀ v' w' (ks : List Value), w'.ownsRow w.heap.size e size v' (n + 1) ks → (∀ k, k < (n + 1) * size → (ks[k]?).getD undef = capp C (n * size) news k) → RowX lo (Go.Proofs.Ytgnamahdchefnaa.kfrom κ w.heap.size r) r e size v' (n + 1) (capp C (n * size) news) w' := fun v' w' ks ho hc =>
    ((RowX.own ho (fun b hb => kfrom_new hb)).congr hc).low hlo
  have hsm : (n + 1) * size = n * size + size := by rw [Nat.add_mul, Nat.one_mul]
  rcases h with ⟨rfl, a0, rfl⟩ | ⟨g, off, cap, cur, rfl, h2, h3, h4, h5, h6, h7, h8⟩
  · have hnl : news.length = size := by omega
    have cs : ∀ (ks : List Value), ks = news → ∀ k, k < (0 + 1) * size → (ks[k]?).getD undef = capp C (0 * size) news k := fun ks hk k _ => by
      subst hk
      unfold capp
      rw [if_neg (by omega)]
      simp
    cases a0 with
    | none =>
      obtain ⟨v', w', hrun, r1, r2, _⟩ := run_append_own (P := P) w w.heap.size t ty e i z size bytes ht hi hz hsize hby hzs hsz (.slice none 0 0) 0 [] (World.ownsRow_nil w _ e size) ad 1 c news hl hnews h1 h63 hbytes (Nat.le_refl _)
      exact ⟨v', w', hrun, big v' w' _ r1 (cs _ (by simp)), .of ⟨r2.os, r2.tape, r2.output, r2.size, fun k hk => r2.block k hk (by simp [Value.ownBlock])⟩, .of e ⟨r2.os, r2.tape, r2.output, r2.size, fun k hk => r2.block k hk (by simp [Value.ownBlock])⟩⟩
    | some b =>
      obtain ⟨v', w', hrun, r1, r2⟩ := run_append_arg_grows (P := P) w t ty e i z size bytes ht hi hz hsize hby hzs hsz b 0 0 [] (by simp) (fun j u hj => by simp at hj) ad 1 c news hl hnews (by omega) h63 hbytes
      exact ⟨v', w', hrun, big v' w' _ r1 (cs _ (by simp)), .of ⟨r2.os, r2.tape, r2.output, r2.size, fun k hk => r2.block k hk (by simp)⟩, .of e ⟨r2.os, r2.tape, r2.output, r2.size, fun k hk => r2.block k hk (by simp)⟩⟩
  · have hcl : ∀ k, k < n * size → w.cell? ⟨g, off + k, none⟩ = some (C k) := fun k hk => by rw [cell_of_row w g _ cur e (0, 0) h4]; exact h8 k hk
    by_cases hr : n + 1 ≤ cap
    · subst hsize
      have hfit : off + n * i.size + i.size ≤ cur.size := by
        have : (n + 1) * i.size ≤ cap * i.size := Nat.mul_le_mul_right _ hr
        omega
      have hrun := run_append_room_cells (P := P) w t ty e i ht hi g off n cap ad 1 c news hl hnews h1 hr (fun j hj => by
        rw [cell_of_row w g _ cur e (0, 0) h4]
        have : off + n * i.size + j < cur.size := by omega
        simp [this]) (fun j _ => frozen_of_row w g _ cur e h4)
      have hnl : news.length = i.size := by omega
      obtain ⟨cur', q1, q2, q3⟩ := heap_setCells_same g e news (off + n * i.size) cur w h4 (by omega)
      refine ⟨_, _, hrun, .inr ⟨g, off, cap, cur', rfl, (kfrom_old (heap_lt h4)).trans h2, h3, q1, hr, h6, by omega, fun k hk => ?_⟩, ?_, ?_⟩
      · rw [q3]
        unfold capp
        by_cases hk2 : k < n * i.size
        · rw [if_neg (by omega), if_pos hk2]
          exact h8 k hk2
        · rw [if_pos (by omega), if_neg hk2, show off + k - (off + n * i.size) = k - n * i.size by omega]
          have : k - n * i.size < news.length := by omega
          simp [this]
      · have hgr := grown_setCells g news (off + n * i.size) w
        exact ⟨hgr.os, hgr.tape, hgr.output, hgr.size, fun b hb h => heap_setCells_other g news _ w b (fun e' => by
          subst e'
          rcases h with h | h
          · omega
          · exact h h2)⟩
      · exact fun b cs t' fr hb ht => heap_setCells_other g news _ w b (fun e' => by
          subst e'
          rw [h4] at hb
          cases hb
          exact ht rfl)
    · obtain ⟨v', w', hrun, r1, r2⟩ := run_append_arg_grows (P := P) w t ty e i z size bytes ht hi hz hsize hby hzs hsz ⟨g, off, none⟩ n cap ((List.range (n * size)).map C) (by simp) (fun j u hj => by
        rw [WideShapes.add_plain]
        have hjl : j < n * size := by
          rcases Nat.lt_or_ge j (n * size) with h | h
          · exact h
          · simp [h] at hj
        simp [hjl] at hj
        rw [← hj]
        exact hcl j hjl) ad 1 c news hl hnews (by omega) h63 hbytes
      refine ⟨v', w', hrun, big v' w' _ r1 (fun k hk => ?_), .of ⟨r2.os, r2.tape, r2.output, r2.size, fun k hk => r2.block k hk (by simp)⟩, .of e ⟨r2.os, r2.tape, r2.output, r2.size, fun k hk => r2.block k hk (by simp)⟩⟩
      unfold capp
      by_cases hk2 : k < n * size
      · rw [if_pos hk2, List.getElem?_append_left (by simpa using hk2)]
        simp [hk2]
      · rw [if_neg hk2, List.getElem?_append_right (by simpa using (by omega : n * size ≤ k))]
        simp
end
end Go.Proofs.Ytgnamahdchefnaa
