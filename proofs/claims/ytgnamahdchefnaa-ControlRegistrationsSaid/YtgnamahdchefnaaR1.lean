/- Registrations, states and consoles in memory: how they read, and who owns their rows. Lemmas on worlds; no program. Conditions: none. -/
import Derived.Test.YtgnamahdchefnaaR0
namespace Go.Proofs.Ytgnamahdchefnaa
open Go.RowKit Go.Shelf

structure Rg where
  s : List Int
  c : Int
  o : Int
instance : Inhabited Rg := ⟨⟨[], 0, 0⟩⟩
structure St where
  d : Rg
  l : Int
  g : List (List Rg)
  v : List (List (List Int))
  p : List Rg
structure Con where
  s : List Int
  co : Int
  ge : Int
  d : List Int
  lv : Int
abbrev regV (v : Value) (c o : Int) : Value := .agg #[v, .int .u64 c, .int .u64 o]
abbrev conV (x y : Value) (co ge lv : Int) : Value := .agg #[x, .int .i64 co, .int .i64 ge, y, .int .i64 lv]
abbrev stV (x : Value) (c o l : Int) (xg xv xp : Value) : Value := .agg #[x, .int .u64 c, .int .u64 o, .int .i64 l, xg, xv, xp]
abbrev evV (k d i : Int) : Value := .agg #[.int .i64 k, .int .i64 d, .int .i64 i]

section
variable {α : Type} [Inhabited α]
def get (xs : List α) (k : Nat) : α := (xs[k]?).getD default
theorem get_lt {xs : List α} {k : Nat} (h : k < xs.length) : get xs k = xs[k] := by simp [get, h]
theorem get_set {xs : List α} {i : Nat} (hi : i < xs.length) (z : α) (j : Nat) : get (xs.set i z) j = if j = i then z else get xs j := by
  unfold get
  rw [List.getElem?_set]
  by_cases h : j = i
  · subst h; simp [hi]
  · simp [h, Ne.symm h]
theorem get_old {xs ys : List α} {k : Nat} (h : k < xs.length) : get (xs ++ ys) k = get xs k := by
  unfold get
  rw [List.getElem?_append_left h]
theorem get_new {xs : List α} {y : α} : get (xs ++ [y]) xs.length = y := by
  unfold get
  rw [List.getElem?_append_right (Nat.le_refl _)]
  simp
theorem get_take {xs : List α} {n k : Nat} (h : k < n) : get (xs.take n) k = get xs k := by
  unfold get
  rw [List.getElem?_take, if_pos h]
theorem get_drop {xs : List α} {n k : Nat} : get (xs.drop n) k = get xs (n + k) := by
  unfold get
  rw [List.getElem?_drop]
theorem ext_get {xs ys : List α} (hl : xs.length = ys.length) (h : ∀ k, k < xs.length → get xs k = get ys k) : xs = ys := by
  apply List.ext_getElem hl
  intro k h1 h2
  rw [← get_lt h1, ← get_lt h2]
  exact h k h1
theorem take_get {xs : List α} {k : Nat} (h : k < xs.length) : xs.take (k + 1) = xs.take k ++ [get xs k] := by
  rw [List.take_succ_eq_append_getElem h, get_lt h]
/-- v reads in w as a list; each element is one cell that reads as the list's element -/
def SlOf (R : World → Value → α → Prop) (w : World) (v : Value) (xs : List α) : Prop :=
  ((∃ a cap, v = .slice a 0 cap) ∧ xs = []) ∨ ∃ b off cap, v = .slice (some ⟨b, off, none⟩) xs.length cap ∧ ∀ i, i < xs.length → ∃ u, w.cell? ⟨b, off + i, none⟩ = some u ∧ R w u (get xs i)
variable {R : World → Value → α → Prop} {w w' : World} {v : Value} {xs : List α}
theorem SlOf.len (h : SlOf R w v xs) : ∃ a cap, v = .slice a xs.length cap := by
  rcases h with ⟨⟨a, cap, rfl⟩, rfl⟩ | ⟨b, off, cap, rfl, _⟩
  · exact ⟨a, cap, rfl⟩
  · exact ⟨some ⟨b, off, none⟩, cap, rfl⟩
theorem SlOf.mono (h : SlOf R w v xs) (hb : Below w.heap.size w w') (hR : ∀ u x, R w u x → R w' u x) : SlOf R w' v xs := by
  rcases h with h | ⟨b, off, cap, rfl, hc⟩
  · exact .inl h
  · refine .inr ⟨b, off, cap, rfl, fun i hi => ?_⟩
    obtain ⟨u, h1, h2⟩ := hc i hi
    exact ⟨u, (hb.cell (p := ⟨b, off + i, none⟩) (lt_of_cell h1)).trans h1, hR _ _ h2⟩
theorem SlOf.at (h : SlOf R w v xs) {k : Nat} (hk : k < xs.length) : ∃ b off cap, v = .slice (some ⟨b, off, none⟩) xs.length cap ∧ ∀ i, i < xs.length → ∃ u, w.cell? ⟨b, off + i, none⟩ = some u ∧ R w u (get xs i) := by
  rcases h with ⟨_, rfl⟩ | h
  · simp at hk
  · exact h
theorem SlOf.lenN {n : Nat} (h : SlOf R w v xs) (hl : xs.length = n) : ∃ a cap, v = .slice a n cap := by subst hl; exact h.len
theorem SlOf.atN {n : Nat} (h : SlOf R w v xs) (hl : xs.length = n) {k : Nat} (hk : k < n) : ∃ b off cap, v = .slice (some ⟨b, off, none⟩) n cap ∧ ∀ i, i < n → ∃ u, w.cell? ⟨b, off + i, none⟩ = some u ∧ R w u (get xs i) := by
  subst hl; exact h.at hk
end

/-- v reads in w as a list of registrations, three cells each -/
def RgSl (w : World) (v : Value) (ls : List Rg) : Prop :=
  ((∃ a cap, v = .slice a 0 cap) ∧ ls = []) ∨ ∃ b off cap, v = .slice (some ⟨b, off, none⟩) ls.length cap ∧
    ∀ i, i < ls.length → ∃ u, w.cell? ⟨b, off + i * 3, none⟩ = some u ∧ NumSl .u64 w u (get ls i).s ∧ w.cell? ⟨b, off + i * 3 + 1, none⟩ = some (.int .u64 (get ls i).c) ∧ w.cell? ⟨b, off + i * 3 + 2, none⟩ = some (.int .u64 (get ls i).o)
section
variable {w w' : World} {v : Value} {ls : List Rg}
theorem RgSl.len (h : RgSl w v ls) : ∃ a cap, v = .slice a ls.length cap := by
  rcases h with ⟨⟨a, cap, rfl⟩, rfl⟩ | ⟨b, off, cap, rfl, _⟩
  · exact ⟨a, cap, rfl⟩
  · exact ⟨some ⟨b, off, none⟩, cap, rfl⟩
theorem RgSl.mono (h : RgSl w v ls) (hb : Below w.heap.size w w') : RgSl w' v ls := by
  rcases h with h | ⟨b, off, cap, rfl, hc⟩
  · exact .inl h
  · refine .inr ⟨b, off, cap, rfl, fun i hi => ?_⟩
    obtain ⟨u, h1, h2, h3, h4⟩ := hc i hi
    exact ⟨u, (hb.cell (p := ⟨b, _, none⟩) (lt_of_cell h1)).trans h1, h2.mono hb, (hb.cell (p := ⟨b, _, none⟩) (lt_of_cell h3)).trans h3, (hb.cell (p := ⟨b, _, none⟩) (lt_of_cell h4)).trans h4⟩
theorem RgSl.at (h : RgSl w v ls) {k : Nat} (hk : k < ls.length) : ∃ b off cap, v = .slice (some ⟨b, off, none⟩) ls.length cap ∧
    ∀ i, i < ls.length → ∃ u, w.cell? ⟨b, off + i * 3, none⟩ = some u ∧ NumSl .u64 w u (get ls i).s ∧ w.cell? ⟨b, off + i * 3 + 1, none⟩ = some (.int .u64 (get ls i).c) ∧ w.cell? ⟨b, off + i * 3 + 2, none⟩ = some (.int .u64 (get ls i).o) := by
  rcases h with ⟨_, rfl⟩ | h
  · simp at hk
  · exact h
theorem RgSl.lenN {n : Nat} (h : RgSl w v ls) (hl : ls.length = n) : ∃ a cap, v = .slice a n cap := by subst hl; exact h.len
theorem RgSl.atN {n : Nat} (h : RgSl w v ls) (hl : ls.length = n) {k : Nat} (hk : k < n) : ∃ b off cap, v = .slice (some ⟨b, off, none⟩) n cap ∧
    ∀ i, i < n → ∃ u, w.cell? ⟨b, off + i * 3, none⟩ = some u ∧ NumSl .u64 w u (get ls i).s ∧ w.cell? ⟨b, off + i * 3 + 1, none⟩ = some (.int .u64 (get ls i).c) ∧ w.cell? ⟨b, off + i * 3 + 2, none⟩ = some (.int .u64 (get ls i).o) := by subst hl; exact h.at hk
end
def GenSl : World → Value → List (List Rg) → Prop := SlOf RgSl
def LvlSl : World → Value → List (List Int) → Prop := SlOf (NumSl .u64)
def DivSl : World → Value → List (List (List Int)) → Prop := SlOf LvlSl
theorem GenSl.mono {w w' : World} {v : Value} {xs : List (List Rg)} (h : GenSl w v xs) (hb : Below w.heap.size w w') : GenSl w' v xs := SlOf.mono h hb (fun _ _ h => h.mono hb)
theorem LvlSl.mono {w w' : World} {v : Value} {xs : List (List Int)} (h : LvlSl w v xs) (hb : Below w.heap.size w w') : LvlSl w' v xs := SlOf.mono h hb (fun _ _ h => h.mono hb)
theorem DivSl.mono {w w' : World} {v : Value} {xs : List (List (List Int))} (h : DivSl w v xs) (hb : Below w.heap.size w w') : DivSl w' v xs := SlOf.mono h hb (fun _ _ h => LvlSl.mono h hb)
/-- a state reads -/
structure StR (w : World) (x xg xv xp : Value) (st : St) : Prop where
  d : NumSl .u64 w x st.d.s
  g : GenSl w xg st.g
  v : DivSl w xv st.v
  p : RgSl w xp st.p
theorem StR.mono {w w' : World} {x xg xv xp : Value} {st : St} (h : StR w x xg xv xp st) (hb : Below w.heap.size w w') : StR w' x xg xv xp st := ⟨h.d.mono hb, h.g.mono hb, h.v.mono hb, h.p.mono hb⟩
/-- a console reads -/
structure ConR (w : World) (x y : Value) (C : Con) : Prop where
  s : NumSl .i64 w x C.s
  d : NumSl .i64 w y C.d
theorem ConR.mono {w w' : World} {x y : Value} {C : Con} (h : ConR w x y C) (hb : Below w.heap.size w w') : ConR w' x y C := ⟨h.s.mono hb, h.d.mono hb⟩

/-- a row of numbers that is owned -/
def RowU (lo : Nat) (κ : Nat → Role) (r : Role) (v : Value) (xs : List Int) (w : World) : Prop := RowX lo κ r 35 1 v xs.length (fun k => .int .u64 (nth xs k)) w
def regC (us : Nat → Value) (ls : List Rg) (k : Nat) : Value := if k % 3 = 0 then us (k / 3) else if k % 3 = 1 then .int .u64 (get ls (k / 3)).c else .int .u64 (get ls (k / 3)).o
theorem regC0 (us : Nat → Value) (ls : List Rg) (i : Nat) : regC us ls (i * 3) = us i := by unfold regC; rw [if_pos (by omega), show i * 3 / 3 = i by omega]
theorem regC1 (us : Nat → Value) (ls : List Rg) (i : Nat) : regC us ls (i * 3 + 1) = .int .u64 (get ls i).c := by unfold regC; rw [if_neg (by omega), if_pos (by omega), show (i * 3 + 1) / 3 = i by omega]
theorem regC2 (us : Nat → Value) (ls : List Rg) (i : Nat) : regC us ls (i * 3 + 2) = .int .u64 (get ls i).o := by unfold regC; rw [if_neg (by omega), if_neg (by omega), show (i * 3 + 2) / 3 = i by omega]
/-- registrations that are owned: their row, and each one's row of numbers -/
def RegsO (lo : Nat) (κ : Nat → Role) (r : Role) (rs : Nat → Role) (v : Value) (ls : List Rg) (w : World) : Prop :=
  ∃ us : Nat → Value, RowX lo κ r 37 3 v ls.length (regC us ls) w ∧ ∀ j, j < ls.length → RowU lo κ (rs j) (us j) (get ls j).s w
/-- a list that is owned, with its elements -/
def OwL {α : Type} [Inhabited α] (lo : Nat) (κ : Nat → Role) (r : Role) (e : TypeId) (E : Nat → Value → α → World → Prop) (v : Value) (xs : List α) (w : World) : Prop :=
  ∃ us : Nat → Value, RowX lo κ r e 1 v xs.length us w ∧ ∀ j, j < xs.length → E j (us j) (get xs j) w
def GenO (lo : Nat) (κ : Nat → Role) : Value → List (List Rg) → World → Prop := OwL lo κ (1, 0, 0) 40 (fun i => RegsO lo κ (2, i, 0) (fun j => (3, i, j)))
def LvlO (lo : Nat) (κ : Nat → Role) (i : Nat) : Value → List (List Int) → World → Prop := OwL lo κ (5, i, 0) 34 (fun j => RowU lo κ (6, i, j))
def DivO (lo : Nat) (κ : Nat → Role) : Value → List (List (List Int)) → World → Prop := OwL lo κ (4, 0, 0) 59 (LvlO lo κ)
abbrev PastO (lo : Nat) (κ : Nat → Role) : Value → List Rg → World → Prop := RegsO lo κ (7, 0, 0) (fun j => (8, j, 0))
structure StO (lo : Nat) (κ : Nat → Role) (st : St) (x xg xv xp : Value) (w : World) : Prop where
  d : RowU lo κ (0, 0, 0) x st.d.s w
  g : GenO lo κ xg st.g w
  v : DivO lo κ xv st.v w
  p : PastO lo κ xp st.p w

section
variable {lo lo' : Nat} {κ κ' : Nat → Role} {w w' : World} {v : Value}
theorem RowU.num {r : Role} {xs : List Int} (h : RowU lo κ r v xs w) : NumSl .u64 w v xs := by
  rcases Nat.eq_zero_or_pos xs.length with h0 | h0
  · obtain ⟨a, c, rfl⟩ := h.len
    rw [h0]
    exact .inl ⟨⟨a, c, rfl⟩, List.eq_nil_of_length_eq_zero h0⟩
  · obtain ⟨g, off, cap, rfl, _, _, _, hc, _⟩ := h.at h0
    exact .inr ⟨g, off, cap, rfl, fun i hi => hc i (by omega)⟩
theorem RegsO.rd {r : Role} {rs : Nat → Role} {ls : List Rg} (h : RegsO lo κ r rs v ls w) : RgSl w v ls := by
  obtain ⟨us, h1, h2⟩ := h
  rcases Nat.eq_zero_or_pos ls.length with h0 | h0
  · obtain ⟨a, c, rfl⟩ := h1.len
    rw [h0]
    exact .inl ⟨⟨a, c, rfl⟩, List.eq_nil_of_length_eq_zero h0⟩
  · obtain ⟨g, off, cap, rfl, _, _, _, hc, _⟩ := h1.at h0
    refine .inr ⟨g, off, cap, rfl, fun i hi => ⟨us i, ?_, (h2 i hi).num, ?_, ?_⟩⟩
    · rw [← regC0 us ls i]; exact hc _ (by omega)
    · rw [← regC1 us ls i, Nat.add_assoc]; exact hc _ (by omega)
    · rw [← regC2 us ls i, Nat.add_assoc]; exact hc _ (by omega)
theorem OwL.rd {α : Type} [Inhabited α] {r : Role} {e : TypeId} {E : Nat → Value → α → World → Prop} {R : World → Value → α → Prop} {xs : List α} (h : OwL lo κ r e E v xs w) (hE : ∀ i u x, E i u x w → R w u x) : SlOf R w v xs := by
  obtain ⟨us, h1, h2⟩ := h
  rcases Nat.eq_zero_or_pos xs.length with h0 | h0
  · obtain ⟨a, c, rfl⟩ := h1.len
    rw [h0]
    exact .inl ⟨⟨a, c, rfl⟩, List.eq_nil_of_length_eq_zero h0⟩
  · obtain ⟨g, off, cap, rfl, _, _, _, hc, _⟩ := h1.at h0
    exact .inr ⟨g, off, cap, rfl, fun i hi => ⟨us i, hc i (by omega), hE i _ _ (h2 i hi)⟩⟩
theorem GenO.rd {xs : List (List Rg)} (h : GenO lo κ v xs w) : GenSl w v xs := OwL.rd h (fun _ _ _ h => RegsO.rd h)
theorem LvlO.rd {i : Nat} {xs : List (List Int)} (h : LvlO lo κ i v xs w) : LvlSl w v xs := OwL.rd h (fun _ _ _ h => RowU.num h)
theorem DivO.rd {xs : List (List (List Int))} (h : DivO lo κ v xs w) : DivSl w v xs := OwL.rd h (fun _ _ _ h => LvlO.rd h)
theorem StO.rd {st : St} {x xg xv xp : Value} (h : StO lo κ st x xg xv xp w) : StR w x xg xv xp st := ⟨h.d.num, h.g.rd, h.v.rd, h.p.rd⟩

theorem RegsO.map {r r' : Role} {rs rs' : Nat → Role} {ls : List Rg} (h : RegsO lo κ r rs v ls w) (hr : ∀ v n C, RowX lo κ r 37 3 v n C w → RowX lo' κ' r' 37 3 v n C w')
    (hs : ∀ j, j < ls.length → ∀ v n C, RowX lo κ (rs j) 35 1 v n C w → RowX lo' κ' (rs' j) 35 1 v n C w') : RegsO lo' κ' r' rs' v ls w' := by
  obtain ⟨us, h1, h2⟩ := h
  exact ⟨us, hr _ _ _ h1, fun j hj => hs j hj _ _ _ (h2 j hj)⟩
theorem OwL.map {α : Type} [Inhabited α] {r r' : Role} {e : TypeId} {E E' : Nat → Value → α → World → Prop} {xs : List α} (h : OwL lo κ r e E v xs w) (hr : ∀ v n C, RowX lo κ r e 1 v n C w → RowX lo' κ' r' e 1 v n C w')
    (hs : ∀ j, j < xs.length → ∀ u x, E j u x w → E' j u x w') : OwL lo' κ' r' e E' v xs w' := by
  obtain ⟨us, h1, h2⟩ := h
  exact ⟨us, hr _ _ _ h1, fun j hj => hs j hj _ _ (h2 j hj)⟩
/-- rows whose tag is in S stay -/
def Mv (lo : Nat) (κ : Nat → Role) (w : World) (lo' : Nat) (κ' : Nat → Role) (w' : World) (S : Nat → Prop) : Prop := ∀ r e size v n C, S r.1 → e ≠ 42 → RowX lo κ r e size v n C w → RowX lo' κ' r e size v n C w'
theorem Mv.sub {S S' : Nat → Prop} (h : Mv lo κ w lo' κ' w' S) (hs : ∀ t, S' t → S t) : Mv lo κ w lo' κ' w' S' := fun r e size v n C h1 he h2 => h r e size v n C (hs _ h1) he h2
theorem GenO.mv {xs : List (List Rg)} (h : GenO lo κ v xs w) (hm : Mv lo κ w lo' κ' w' (fun t => t = 1 ∨ t = 2 ∨ t = 3)) : GenO lo' κ' v xs w' :=
  OwL.map h (fun v n C => hm _ _ _ v n C (by simp) (by decide)) (fun i _ u x h1 => RegsO.map h1 (fun v n C => hm _ _ _ v n C (by simp) (by decide)) (fun j _ v n C => hm _ _ _ v n C (by simp) (by decide)))
theorem DivO.mv {xs : List (List (List Int))} (h : DivO lo κ v xs w) (hm : Mv lo κ w lo' κ' w' (fun t => t = 4 ∨ t = 5 ∨ t = 6)) : DivO lo' κ' v xs w' :=
  OwL.map h (fun v n C => hm _ _ _ v n C (by simp) (by decide)) (fun i _ u x h1 => OwL.map h1 (fun v n C => hm _ _ _ v n C (by simp) (by decide)) (fun j _ u x => hm _ _ _ u _ _ (by simp) (by decide)))
theorem PastO.mv {xs : List Rg} (h : PastO lo κ v xs w) (hm : Mv lo κ w lo' κ' w' (fun t => t = 7 ∨ t = 8)) : PastO lo' κ' v xs w' :=
  RegsO.map h (fun v n C => hm _ _ _ v n C (by simp) (by decide)) (fun j _ v n C => hm _ _ _ v n C (by simp) (by decide))
theorem StO.mv {st : St} {x xg xv xp : Value} (h : StO lo κ st x xg xv xp w) (hm : Mv lo κ w lo' κ' w' (fun t => t ≤ 8)) : StO lo' κ' st x xg xv xp w' :=
  ⟨hm _ _ _ _ _ _ (by simp) (by decide) h.d, h.g.mv (hm.sub (fun t ht => by omega)), h.v.mv (hm.sub (fun t ht => by omega)), h.p.mv (hm.sub (fun t ht => by omega))⟩
theorem Mv.below (S : Nat → Prop) (hb : Below w.heap.size w w') : Mv lo κ w lo κ w' S := fun _ _ _ _ _ _ _ _ h => h.below hb
theorem Mv.fr {R : Role → Prop} (S : Nat → Prop) (hf : Fr lo κ R w w') (hS : ∀ r, S r.1 → ¬ R r) : Mv lo κ w lo κ w' S := fun r _ _ _ _ _ h1 _ h => h.fr hf (hS r h1)
theorem Mv.kf (S : Nat → Prop) (r : Role) : Mv lo κ w lo (Go.Proofs.Ytgnamahdchefnaa.kfrom κ w.heap.size r) w S := fun _ _ _ _ _ _ _ _ h => h.kf
theorem Mv.trans {lo'' : Nat} {κ'' : Nat → Role} {w'' : World} {S : Nat → Prop} (h : Mv lo κ w lo' κ' w' S) (g : Mv lo' κ' w' lo'' κ'' w'' S) : Mv lo κ w lo'' κ'' w'' S := fun r e size v n C h1 he h2 => g r e size v n C h1 he (h r e size v n C h1 he h2)
theorem StO.below {st : St} {x xg xv xp : Value} (h : StO lo κ st x xg xv xp w) (hb : Below w.heap.size w w') : StO lo κ st x xg xv xp w' := h.mv (Mv.below _ hb)
/-- a store into a state's box -/
theorem Mv.box {B : Nat} {cs : Array Value} (S : Nat → Prop) (hB : BoxC w B 42 cs) (i : Nat) (u : Value) : Mv lo κ w lo κ (w.setCell ⟨B, i, none⟩ u) S :=
  fun _ _ _ _ _ _ _ he h => h.box hB (Ne.symm he) i u
theorem Mv.low (S : Nat → Prop) (hl : lo' ≤ lo) : Mv lo κ w lo' κ w S := fun _ _ _ _ _ _ _ _ h => h.low hl
theorem Mv.rekey (S : Nat → Prop) (hk : ∀ b, lo ≤ b → b < w.heap.size → S (κ b).1 → κ' b = κ b) : Mv lo κ w lo κ' w S := fun _ _ _ _ _ _ h1 _ h => h.rekey (fun b h2 h3 h4 => by rw [hk b h2 h3 (by rw [h4]; exact h1), h4])
end
end Go.Proofs.Ytgnamahdchefnaa
