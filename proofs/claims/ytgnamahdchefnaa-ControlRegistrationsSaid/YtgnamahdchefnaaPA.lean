/- Plain facts of events and registrations, and the contract of Drawn's at. Conditions: consoles of plans. -/
import Derived.Test.YtgnamahdchefnaaW6
import Derived.Test.YtgnamahdchefnaaW1
import Derived.Laws.BitsAllLaws
namespace Go.Proofs.Ytgnamahdchefnaa
open Go.RowKit Go.Shelf

theorem pow_small {i : Nat} (h : i ≤ 4) : (2 : Nat) ^ i ≤ 16 ∧ IntKind.u64.wrap (2 ^ i) = ((2 ^ i : Nat) : Int) := by
  rcases (by omega : i = 0 ∨ i = 1 ∨ i = 2 ∨ i = 3 ∨ i = 4) with rfl | rfl | rfl | rfl | rfl <;> exact ⟨by decide, by decide⟩
theorem tog_nat {x i : Nat} (hx : x < 16) (hi : i ≤ 4) : tog (x : Int) i = ((x ^^^ 2 ^ i : Nat) : Int) := by
  obtain ⟨h1, h2⟩ := pow_small hi
  unfold tog
  rw [h2]
  exact u64_xor_nat x (2 ^ i) (by omega) (by omega)
theorem pow_cast (n : Nat) : ((2 ^ n : Nat) : Int) = (2 : Int) ^ n := by simp
theorem tog_lt {a : Int} {i n : Nat} (h : 0 ≤ a ∧ a < 2 ^ n) (hi : i < n) (hn : n ≤ 4) : 0 ≤ tog a i ∧ tog a i < 2 ^ n := by
  obtain ⟨x, rfl⟩ : ∃ x : Nat, a = x := ⟨a.toNat, by omega⟩
  have hx : x < 2 ^ n := by have := h.2; rw [← pow_cast] at this; omega
  have h16 : 2 ^ n ≤ 16 := (pow_small hn).1
  rw [tog_nat (by omega) (by omega), ← pow_cast]
  have h2 : x ^^^ 2 ^ i < 2 ^ n := Nat.xor_lt_two_pow hx (Nat.pow_lt_pow_right (by omega) hi)
  omega
theorem SoundP.fit {C : Con} {st : St} (hC : C.Ok) (hS : SoundP C st) : st.Fit := by
  have hn := hC.n
  have hlv := hC.lv
  have hge := hC.ge
  have hd := hC.d
  exact {
    d := by have := hS.d.n; omega
    g := by have := hS.gn; omega
    gl := fun i hi => by have := hS.gl i hi; omega
    gr := fun i j hi hj => by have := (hS.gr i j hi hj).n; omega
    v := by have := hS.vn; omega
    vl := fun i hi => by have := hS.vl i hi; omega
    vd := fun i j hi hj => by have h1 := hS.vl i hi; have h2 := hS.vd i j hi (by omega); have := hd j; omega
    p := by have := hS.pn; omega
    pr := fun j hj => by have := (hS.pr j hj).n; omega }
theorem none_ok (C : Con) : RegOk C (noneR C) := by
  have hp : ∀ n : Nat, (0 : Int) < 2 ^ n := fun n => Int.pow_pos (by omega)
  exact ⟨zeros_len _, fun k _ => by unfold noneR; rw [nth_zeros]; exact ⟨Int.le_refl _, hp _⟩, ⟨Int.le_refl _, hp _⟩, ⟨Int.le_refl _, hp _⟩⟩
theorem RegOk.setS {C : Con} {r : Rg} (h : RegOk C r) {k : Nat} {z : Int} (hk : k < C.s.length) (hz : 0 ≤ z ∧ z < 2 ^ (nth C.s k).toNat) : RegOk C ⟨r.s.set k z, r.c, r.o⟩ := by
  refine ⟨by simpa using h.n, fun j hj => ?_, h.c, h.o⟩
  show 0 ≤ nth (r.s.set k z) j ∧ nth (r.s.set k z) j < _
  rw [nth_set (by rw [h.n]; exact hk)]
  by_cases e : j = k
  · rw [if_pos e, e]; exact hz
  · rw [if_neg e]; exact h.s j hj
/-- what an event but Undo does keeps a state sound -/
theorem act_sound {C : Con} {st : St} {k d i : Int} (hC : C.Ok) (hS : SoundP C st) (hpos : posF C st k d i = 0) : SoundP C (actF C st k d.toNat i.toNat) ∧ (actF C st k d.toNat i.toNat).p = st.p := by
  have hlv : st.l.toNat < st.g.length ∧ st.l.toNat < st.v.length := by have := hS.l; have := hS.gn; have := hS.vn; omega
  unfold posF at hpos
  unfold actF
  by_cases h1 : k = 1
  · rw [if_pos h1] at hpos ⊢
    split at hpos
    · rename_i hb
      refine ⟨?_, rfl⟩
      have hdn : d.toNat < C.s.length := by omega
      have hs4 := hC.s d.toNat
      exact { hS with d := hS.d.setS hdn (tog_lt (hS.d.s _ hdn) (by omega) (by omega)) }
    · cases hpos
  rw [if_neg h1] at hpos ⊢
  by_cases h5 : k = 5
  · rw [if_pos (.inl h5)] at hpos
    rw [if_neg (by omega), if_neg (by omega), if_neg (by omega), if_pos h5]
    split at hpos
    · rename_i hb
      refine ⟨?_, rfl⟩
      have hdn : d.toNat < C.s.length := by omega
      have hvd := hS.vd _ _ hlv.2 hdn
      exact { hS with d := hS.d.setS hdn (hS.vb _ _ _ hlv.2 hdn (by omega)) }
    · cases hpos
  by_cases h7 : k = 7
  · rw [if_pos (.inr h7)] at hpos
    rw [if_neg (by omega), if_neg (by omega), if_neg (by omega), if_neg (by omega), if_neg (by omega), if_pos h7]
    split at hpos
    · rename_i hb
      refine ⟨?_, rfl⟩
      have hdn : d.toNat < C.s.length := by omega
      have hvl := hS.vl _ hlv.2
      have hvd := hS.vd _ _ hlv.2 hdn
      have hdl : d.toNat < (get st.v st.l.toNat).length := by omega
      have him : i.toNat < (get (get st.v st.l.toNat) d.toNat).length := by omega
      have hsb := hS.d.s _ hdn
      have gv : ∀ a, get (st.v.set st.l.toNat ((get st.v st.l.toNat).set d.toNat ((get (get st.v st.l.toNat) d.toNat).set i.toNat (nth st.d.s d.toNat)))) a = if a = st.l.toNat then (get st.v st.l.toNat).set d.toNat ((get (get st.v st.l.toNat) d.toNat).set i.toNat (nth st.d.s d.toNat)) else get st.v a := fun a => get_set hlv.2 _ a
      exact { hS with
        vn := by simpa using hS.vn
        vl := fun a ha => by
          rw [gv]
          by_cases e : a = st.l.toNat
          · rw [if_pos e]; simpa using hvl
          · rw [if_neg e]; exact hS.vl a (by simpa using ha)
        vd := fun a b ha hb => by
          rw [gv]
          by_cases e : a = st.l.toNat
          · rw [if_pos e, get_set hdl]
            by_cases e2 : b = d.toNat
            · rw [if_pos e2, e2, List.length_set]; exact hvd
            · rw [if_neg e2]; exact hS.vd _ b hlv.2 hb
          · rw [if_neg e]; exact hS.vd a b (by simpa using ha) hb
        vb := fun a b c ha hb hc => by
          rw [gv] at hc ⊢
          by_cases e : a = st.l.toNat
          · rw [if_pos e, get_set hdl] at hc
            rw [if_pos e, get_set hdl]
            by_cases e2 : b = d.toNat
            · rw [if_pos e2] at hc ⊢
              rw [List.length_set] at hc
              rw [nth_set him]
              by_cases e3 : c = i.toNat
              · rw [if_pos e3, e2]; exact hsb
              · rw [if_neg e3, e2]; exact hS.vb _ _ c hlv.2 hdn hc
            · rw [if_neg e2] at hc ⊢
              exact hS.vb _ b c hlv.2 hb hc
          · rw [if_neg e] at hc ⊢
            exact hS.vb a b c (by simpa using ha) hb hc }
    · cases hpos
  rw [if_neg (by omega)] at hpos
  by_cases h2 : k = 2
  · rw [if_pos h2] at hpos ⊢
    split at hpos
    · rename_i hb
      have hco := hC.co
      exact ⟨{ hS with d := ⟨hS.d.n, hS.d.s, tog_lt hS.d.c (by omega) (by omega), hS.d.o⟩ }, rfl⟩
    · cases hpos
  rw [if_neg h2] at hpos ⊢
  by_cases h3 : k = 3
  · rw [if_pos h3] at hpos ⊢
    split at hpos
    · rename_i hb
      have hn := hC.n
      exact ⟨{ hS with d := ⟨hS.d.n, hS.d.s, hS.d.c, tog_lt hS.d.o (by omega) (by omega)⟩ }, rfl⟩
    · cases hpos
  rw [if_neg h3] at hpos ⊢
  by_cases h4 : k = 4
  · rw [if_pos (.inl h4)] at hpos
    rw [if_pos h4]
    split at hpos
    · rename_i hb
      have hgl := hS.gl _ hlv.1
      exact ⟨{ hS with d := hS.gr _ _ hlv.1 (by omega) }, rfl⟩
    · cases hpos
  rw [if_neg h4, if_neg h5]
  by_cases h6 : k = 6
  · rw [if_pos (.inr h6)] at hpos
    rw [if_pos h6]
    split at hpos
    · rename_i hb
      have hgl := hS.gl _ hlv.1
      have him : i.toNat < (get st.g st.l.toNat).length := by omega
      have gg : ∀ a, get (st.g.set st.l.toNat ((get st.g st.l.toNat).set i.toNat st.d)) a = if a = st.l.toNat then (get st.g st.l.toNat).set i.toNat st.d else get st.g a := fun a => get_set hlv.1 _ a
      exact ⟨{ hS with
        gn := by simpa using hS.gn
        gl := fun a ha => by
          rw [gg]
          by_cases e : a = st.l.toNat
          · rw [if_pos e]; simpa using hgl
          · rw [if_neg e]; exact hS.gl a (by simpa using ha)
        gr := fun a b ha hb => by
          rw [gg] at hb ⊢
          by_cases e : a = st.l.toNat
          · rw [if_pos e] at hb ⊢
            rw [get_set him]
            by_cases e2 : b = i.toNat
            · rw [if_pos e2]; exact hS.d
            · rw [if_neg e2]; exact hS.gr _ b hlv.1 (by simpa using hb)
          · rw [if_neg e] at hb ⊢
            exact hS.gr a b (by simpa using ha) hb }, rfl⟩
    · cases hpos
  rw [if_neg (by omega)] at hpos
  rw [if_neg h6, if_neg h7]
  by_cases h8 : k = 8
  · rw [if_pos h8] at hpos ⊢
    split at hpos
    · rename_i hb
      exact ⟨{ hS with l := by show 0 ≤ ((i.toNat : Nat) : Int) ∧ ((i.toNat : Nat) : Int) < C.lv; omega }, rfl⟩
    · cases hpos
  rw [if_neg h8]
  exact ⟨{ hS with d := none_ok C }, rfl⟩
theorem push_sound {C : Con} {st st1 : St} (hS : SoundP C st) (h1 : SoundP C st1) : SoundP C (pushF st st1) := by
  unfold pushF
  split
  · exact h1
  · have hl : ((st1.p ++ [st.d]).drop ((st1.p ++ [st.d]).length - 20)).length ≤ 20 := by rw [List.length_drop]; omega
    exact { h1 with
      pn := hl
      pr := fun j hj => by
        show RegOk C (get ((st1.p ++ [st.d]).drop ((st1.p ++ [st.d]).length - 20)) j)
        rw [get_drop]
        have hj' : (st1.p ++ [st.d]).length - 20 + j < st1.p.length + 1 := by
          have : j < ((st1.p ++ [st.d]).drop ((st1.p ++ [st.d]).length - 20)).length := hj
          rw [List.length_drop] at this
          simp at this ⊢
          omega
        rcases Nat.lt_or_ge ((st1.p ++ [st.d]).length - 20 + j) st1.p.length with e | e
        · rw [get_old e]; exact h1.pr _ e
        · rw [show (st1.p ++ [st.d]).length - 20 + j = st1.p.length by omega, get_new]; exact hS.d }
theorem undo_sound {C : Con} {st : St} (hS : SoundP C st) (h : st.p.length ≠ 0) : SoundP C (undoF st) := by
  have hl : (st.p.take (st.p.length - 1)).length = st.p.length - 1 := by rw [List.length_take]; omega
  have hpn := hS.pn
  exact { hS with
    d := hS.pr _ (by omega)
    pn := by show (st.p.take (st.p.length - 1)).length ≤ 20; omega
    pr := fun j hj => by
      have hj' : j < st.p.length - 1 := by rw [← hl]; exact hj
      show RegOk C (get (st.p.take (st.p.length - 1)) j)
      rw [get_take hj']
      exact hS.pr j (by omega) }
theorem do_sound {C : Con} {st : St} {k d i : Int} (hC : C.Ok) (hS : SoundP C st) (hpos : posF C st k d i = 0) : SoundP C (doF C st k d i) := by
  unfold doF
  by_cases h : k = 10
  · rw [if_pos h]
    refine undo_sound hS (fun e => ?_)
    subst h
    unfold posF at hpos
    simp [e] at hpos
  · rw [if_neg h]
    obtain ⟨h1, _⟩ := act_sound hC hS hpos
    exact push_sound hS h1
/-- the state behind the possible ones of some events -/
structure Ev where
  k : Int
  d : Int
  i : Int
instance : Inhabited Ev := ⟨⟨0, 0, 0⟩⟩
def stepF (C : Con) (st : St) (e : Ev) : St := if posF C st e.k e.d e.i = 0 then doF C st e.k e.d e.i else st
def afterF (C : Con) (st : St) (l : List Ev) : St := l.foldl (stepF C) st
theorem step_sound {C : Con} {st : St} (hC : C.Ok) (hS : SoundP C st) (e : Ev) : SoundP C (stepF C st e) := by
  unfold stepF
  split
  · rename_i h; exact do_sound hC hS h
  · exact hS
theorem after_sound {C : Con} (hC : C.Ok) : ∀ (l : List Ev) (st : St), SoundP C st → SoundP C (afterF C st l)
  | [], _, h => h
  | e :: l, _, h => after_sound hC l _ (step_sound hC h e)
theorem after_take {C : Con} {st : St} {l : List Ev} {k : Nat} (h : k < l.length) : afterF C st (l.take (k + 1)) = stepF C (afterF C st (l.take k)) (get l k) := by
  rw [take_get h]
  unfold afterF
  rw [List.foldl_append]
  rfl
/-- the first state -/
def startF (C : Con) : St := ⟨noneR C, 0, List.replicate C.lv.toNat (List.replicate C.ge.toNat (noneR C)), List.replicate C.lv.toNat (C.d.map (fun n => zeros n.toNat)), []⟩
theorem get_rep {α : Type} [Inhabited α] {n : Nat} {a : α} {k : Nat} (h : k < n) : get (List.replicate n a) k = a := by
  unfold get
  rw [List.getElem?_replicate, if_pos h]
  rfl
theorem start_sound {C : Con} (hC : C.Ok) : SoundP C (startF C) := by
  have hlv := hC.lv
  have hge := hC.ge
  have hp : ∀ n : Nat, (0 : Int) < 2 ^ n := fun n => Int.pow_pos (by omega)
  have hgl : (startF C).g.length = C.lv.toNat := by simp [startF]
  have hvl : (startF C).v.length = C.lv.toNat := by simp [startF]
  have hg : ∀ i, i < C.lv.toNat → get (startF C).g i = List.replicate C.ge.toNat (noneR C) := fun i hi => get_rep hi
  have hv : ∀ i, i < C.lv.toNat → get (startF C).v i = C.d.map (fun n => zeros n.toNat) := fun i hi => get_rep hi
  have hz : ∀ j, j < C.s.length → get (C.d.map (fun n => zeros n.toNat)) j = zeros (nth C.d j).toNat := fun j hj => by
    have hj' : j < C.d.length := by rw [hC.dl]; exact hj
    simp [get, nth, hj']
  exact {
    d := none_ok C
    l := ⟨Int.le_refl _, by show (0 : Int) < C.lv; omega⟩
    gn := by rw [hgl]; omega
    gl := fun i hi => by rw [hgl] at hi; rw [hg i hi, List.length_replicate]; omega
    gr := fun i j hi hj => by rw [hgl] at hi; rw [hg i hi] at hj ⊢; rw [List.length_replicate] at hj; rw [get_rep hj]; exact none_ok C
    vn := by rw [hvl]; omega
    vl := fun i hi => by rw [hvl] at hi; rw [hv i hi, List.length_map]; exact hC.dl
    vd := fun i j hi hj => by rw [hvl] at hi; rw [hv i hi, hz j hj, zeros_len]; have := hC.d j; omega
    vb := fun i j k hi hj _ => by rw [hvl] at hi; rw [hv i hi, hz j hj, nth_zeros]; exact ⟨Int.le_refl _, hp _⟩
    pn := by simp [startF]
    pr := fun j hj => by simp [startF] at hj }
end Go.Proofs.Ytgnamahdchefnaa
namespace Go.Proofs.Ytgnamahdchefnaa
open Go.RowKit Go.Shelf

/-- v reads in w as a list of events, three cells each -/
def EvSl (w : World) (v : Value) (ls : List Ev) : Prop :=
  ((∃ a cap, v = .slice a 0 cap) ∧ ls = []) ∨ ∃ b off cap, v = .slice (some ⟨b, off, none⟩) ls.length cap ∧
    ∀ i, i < ls.length → w.cell? ⟨b, off + i * 3, none⟩ = some (.int .i64 (get ls i).k) ∧ w.cell? ⟨b, off + i * 3 + 1, none⟩ = some (.int .i64 (get ls i).d) ∧ w.cell? ⟨b, off + i * 3 + 2, none⟩ = some (.int .i64 (get ls i).i)
section
variable {w w' : World} {v : Value} {ls : List Ev}
theorem EvSl.len (h : EvSl w v ls) : ∃ a cap, v = .slice a ls.length cap := by
  rcases h with ⟨⟨a, cap, rfl⟩, rfl⟩ | ⟨b, off, cap, rfl, _⟩
  · exact ⟨a, cap, rfl⟩
  · exact ⟨some ⟨b, off, none⟩, cap, rfl⟩
theorem EvSl.mono (h : EvSl w v ls) (hb : Below w.heap.size w w') : EvSl w' v ls := by
  rcases h with h | ⟨b, off, cap, rfl, hc⟩
  · exact .inl h
  · refine .inr ⟨b, off, cap, rfl, fun i hi => ?_⟩
    obtain ⟨h1, h3, h4⟩ := hc i hi
    exact ⟨(hb.cell (p := ⟨b, _, none⟩) (lt_of_cell h1)).trans h1, (hb.cell (p := ⟨b, _, none⟩) (lt_of_cell h3)).trans h3, (hb.cell (p := ⟨b, _, none⟩) (lt_of_cell h4)).trans h4⟩
theorem EvSl.at (h : EvSl w v ls) {k : Nat} (hk : k < ls.length) : ∃ b off cap, v = .slice (some ⟨b, off, none⟩) ls.length cap ∧
    ∀ i, i < ls.length → w.cell? ⟨b, off + i * 3, none⟩ = some (.int .i64 (get ls i).k) ∧ w.cell? ⟨b, off + i * 3 + 1, none⟩ = some (.int .i64 (get ls i).d) ∧ w.cell? ⟨b, off + i * 3 + 2, none⟩ = some (.int .i64 (get ls i).i) := by
  rcases h with ⟨_, rfl⟩ | h
  · simp at hk
  · exact h
end
/-- all events of a list are possible, one behind the other -/
def AllPos (C : Con) (st : St) (l : List Ev) : Prop := ∀ k, k < l.length → posF C (afterF C st (l.take k)) (get l k).k (get l k).d (get l k).i = 0
theorem after_pos {C : Con} {st : St} {l : List Ev} (h : AllPos C st l) {k : Nat} (hk : k < l.length) : afterF C st (l.take (k + 1)) = doF C (afterF C st (l.take k)) (get l k).k (get l k).d (get l k).i := by
  rw [after_take hk]
  unfold stepF
  rw [if_pos (h k hk)]
end Go.Proofs.Ytgnamahdchefnaa
namespace Go.Proofs.Ytgnamahdchefnaa
open Go.RowKit Go.Shelf

theorem push_keep (st st1 : St) : (pushF st st1).d = st1.d ∧ (pushF st st1).l = st1.l ∧ (pushF st st1).g = st1.g ∧ (pushF st st1).v = st1.v := by
  unfold pushF
  split
  · exact ⟨rfl, rfl, rfl, rfl⟩
  · exact ⟨rfl, rfl, rfl, rfl⟩
/-- the general memories behind an event -/
theorem do_g {C : Con} {st : St} {k d i : Int} : (doF C st k d i).g = if k = 6 then st.g.set st.l.toNat ((get st.g st.l.toNat).set i.toNat st.d) else st.g := by
  unfold doF
  by_cases h10 : k = 10
  · rw [if_pos h10, if_neg (by omega)]
    rfl
  · rw [if_neg h10, (push_keep _ _).2.2.1]
    unfold actF
    by_cases h1 : k = 1
    · rw [if_pos h1, if_neg (by omega)]
    rw [if_neg h1]
    by_cases h2 : k = 2
    · rw [if_pos h2, if_neg (by omega)]
    rw [if_neg h2]
    by_cases h3 : k = 3
    · rw [if_pos h3, if_neg (by omega)]
    rw [if_neg h3]
    by_cases h4 : k = 4
    · rw [if_pos h4, if_neg (by omega)]
    rw [if_neg h4]
    by_cases h5 : k = 5
    · rw [if_pos h5, if_neg (by omega)]
    rw [if_neg h5]
    by_cases h6 : k = 6
    · rw [if_pos h6, if_pos h6]
    rw [if_neg h6, if_neg h6]
    by_cases h7 : k = 7
    · rw [if_pos h7]
    rw [if_neg h7]
    by_cases h8 : k = 8
    · rw [if_pos h8]
    rw [if_neg h8]
/-- what the first piston holds at a level -/
def held0 (st : St) (l : Nat) : Rg := get (get st.g l) 0
theorem do_held {C : Con} {st : St} {k d i : Int} {l : Nat} (hpos : posF C st k d i = 0) (hS : SoundP C st) (hk : ¬ (k = 6 ∧ i = 0)) : held0 (doF C st k d i) l = held0 st l := by
  unfold held0
  rw [do_g]
  by_cases h6 : k = 6
  · rw [if_pos h6]
    subst h6
    have hi : ¬ i = 0 := fun e => hk ⟨rfl, e⟩
    unfold posF at hpos
    simp at hpos
    have hlv : st.l.toNat < st.g.length := by have := hS.l; have := hS.gn; omega
    have hgl := hS.gl _ hlv
    rw [get_set hlv]
    split
    · rename_i h
      rw [get_set (by omega), if_neg (by omega), h]
    · rfl
  · rw [if_neg h6]
/-- a step that leaves the events out that set the first piston -/
def stepR (C : Con) (st : St) (e : Ev) : St := if e.k = 6 ∧ e.i = 0 then st else stepF C st e
def afterR (C : Con) (st : St) (l : List Ev) : St := l.foldl (stepR C) st
theorem stepR_sound {C : Con} {st : St} (hC : C.Ok) (hS : SoundP C st) (e : Ev) : SoundP C (stepR C st e) := by
  unfold stepR
  split
  · exact hS
  · exact step_sound hC hS e
theorem afterR_sound {C : Con} (hC : C.Ok) : ∀ (l : List Ev) (st : St), SoundP C st → SoundP C (afterR C st l)
  | [], _, h => h
  | e :: l, _, h => afterR_sound hC l _ (stepR_sound hC h e)
theorem stepR_held {C : Con} {st : St} (hS : SoundP C st) (e : Ev) (l : Nat) : held0 (stepR C st e) l = held0 st l := by
  unfold stepR
  split
  · rfl
  · rename_i h
    unfold stepF
    split
    · rename_i hp
      exact do_held hp hS h
    · rfl
theorem afterR_held {C : Con} (hC : C.Ok) (n : Nat) : ∀ (l : List Ev) (st : St), SoundP C st → held0 (afterR C st l) n = held0 st n
  | [], _, _ => rfl
  | e :: l, st, h => (afterR_held hC n l (stepR C st e) (stepR_sound hC h e)).trans (stepR_held h e n)
theorem afterR_take {C : Con} {st : St} {l : List Ev} {k : Nat} (h : k < l.length) : afterR C st (l.take (k + 1)) = stepR C (afterR C st (l.take k)) (get l k) := by
  rw [take_get h]
  unfold afterR
  rw [List.foldl_append]
  rfl
theorem set_pos {C : Con} {st : St} (hg : 0 < C.ge) : posF C st 6 0 0 = 0 := by
  unfold posF
  simp [hg]
theorem set_held {C : Con} {st : St} (hS : SoundP C st) (hg : 0 < C.ge) : held0 (doF C st 6 0 0) st.l.toNat = st.d := by
  have hlv : st.l.toNat < st.g.length := by have := hS.l; have := hS.gn; omega
  have hgl := hS.gl _ hlv
  unfold held0
  rw [do_g, if_pos rfl, get_set hlv, if_pos rfl]
  rw [show (0 : Int).toNat = 0 from rfl, get_set (by omega), if_pos rfl]
theorem level_pos {C : Con} {st : St} {l : Int} (h : 0 ≤ l ∧ l < C.lv) : posF C st 8 0 l = 0 := by
  unfold posF
  simp [h.1, h.2]
theorem general_pos {C : Con} {st : St} (hg : 0 < C.ge) : posF C st 4 0 0 = 0 := by
  unfold posF
  simp [hg]
def recEv (l : Int) : List Ev := [⟨8, 0, l⟩, ⟨4, 0, 0⟩]
theorem rec_pos {C : Con} {st : St} {l : Int} (h : 0 ≤ l ∧ l < C.lv) (hg : 0 < C.ge) : AllPos C st (recEv l) := by
  intro k hk
  have hk2 : k < 2 := hk
  rcases (by omega : k = 0 ∨ k = 1) with rfl | rfl
  · exact level_pos h
  · exact general_pos hg
theorem rec_d {C : Con} {st : St} {l : Int} (h : 0 ≤ l ∧ l < C.lv) (hg : 0 < C.ge) : (afterF C st (recEv l)).d = held0 st l.toNat := by
  have e1 : afterF C st (recEv l) = doF C (doF C st 8 0 l) 4 0 0 := by
    have h1 : stepF C st ⟨8, 0, l⟩ = doF C st 8 0 l := by unfold stepF; rw [if_pos (level_pos h)]
    have h2 : stepF C (doF C st 8 0 l) ⟨4, 0, 0⟩ = doF C (doF C st 8 0 l) 4 0 0 := by unfold stepF; rw [if_pos (general_pos hg)]
    show stepF C (stepF C st ⟨8, 0, l⟩) ⟨4, 0, 0⟩ = _
    rw [h1, h2]
  have e2 : (doF C st 8 0 l).g = st.g := by rw [do_g, if_neg (by omega)]
  have e3 : (doF C st 8 0 l).l.toNat = l.toNat := by
    unfold doF
    rw [if_neg (by omega), (push_keep _ _).2.1]
    unfold actF
    simp
    omega
  rw [e1]
  generalize doF C st 8 0 l = s2 at e2 e3
  unfold doF
  rw [if_neg (by omega), (push_keep _ _).1]
  unfold actF held0
  simp [e2, e3]
/-- the whole of what ControlRecalls says -/
theorem recalls {C : Con} {st : St} {more : List Ev} (hC : C.Ok) (hS : SoundP C st) (hg : 0 < C.ge) : (afterF C (afterR C (doF C st 6 0 0) more) (recEv st.l)).d = st.d := by
  rw [rec_d hS.l hg, afterR_held hC _ _ _ (do_sound hC hS (set_pos hg)), set_held hS hg]
theorem recalls2 {C : Con} {st : St} {d : Rg} {l : Int} {more : List Ev} (hC : C.Ok) (hS : SoundP C st) (hg : 0 < C.ge) (hl : 0 ≤ l ∧ l < C.lv) (h : held0 st l.toNat = d) : (afterF C (afterR C st more) (recEv l)).d = d := by
  rw [rec_d hl hg, afterR_held hC _ _ _ hS, h]
/-- what Undo draws behind an event that changed what is drawn -/
theorem undo_after {C : Con} {st : St} {k d i : Int} (hC : C.Ok) (hS : SoundP C st) (hpos : posF C st k d i = 0) (hk : k ≠ 10) (hd : (doF C st k d i).d ≠ st.d) :
    posF C (doF C st k d i) 10 0 0 = 0 ∧ (undoF (doF C st k d i)).d = st.d := by
  obtain ⟨-, hp⟩ := act_sound hC hS hpos
  have e1 : doF C st k d i = pushF st (actF C st k d.toNat i.toNat) := by unfold doF; rw [if_neg hk]
  rw [e1, (push_keep _ _).1] at hd
  have e2 : pushF st (actF C st k d.toNat i.toNat) = { actF C st k d.toNat i.toNat with p := (st.p ++ [st.d]).drop ((st.p ++ [st.d]).length - 20) } := by
    unfold pushF
    rw [if_neg (fun e => hd (eqB_iff.1 e)), hp]
  have hl : (st.p ++ [st.d]).length = st.p.length + 1 := by simp
  have hl2 : ((st.p ++ [st.d]).drop ((st.p ++ [st.d]).length - 20)).length = st.p.length + 1 - (st.p.length + 1 - 20) := by rw [List.length_drop, hl]
  rw [e1, e2]
  constructor
  · unfold posF
    simp
    omega
  · show get ((st.p ++ [st.d]).drop ((st.p ++ [st.d]).length - 20)) (((st.p ++ [st.d]).drop ((st.p ++ [st.d]).length - 20)).length - 1) = st.d
    rw [get_drop, hl2, hl, show st.p.length + 1 - 20 + (st.p.length + 1 - (st.p.length + 1 - 20) - 1) = st.p.length by omega, get_new]
end Go.Proofs.Ytgnamahdchefnaa
namespace Go.Proofs.Ytgnamahdchefnaa
open Go.RowKit Go.Shelf

def atB (bits : List Int) (i : Nat) : Int := if i < bits.length then nth bits i else 0
set_option maxHeartbeats 1000000 in
theorem at_any (v : Value) (bits : List Int) (B i : Nat) (w : World) (hs : NumSl .u8 w v bits) (hb : ∀ k, k < bits.length → 0 ≤ nth bits k ∧ nth bits k < 256) (bP : BoxC w B 22 #[v]) :
    Calls Try.prog 29 #[.int .i64 i, .pointer (some ⟨B, 0, none⟩)] w (fun e w' => e = .returned (.int .u64 (atB bits i)) ∧ w' = w) := by
  obtain ⟨a, cap, rfl⟩ := hs.len
  have p0 := bP.cell 0 rfl
  by_cases hi : i < bits.length
  · obtain ⟨b, off, cap', he, hc⟩ := hs.at hi
    cases he
    have hck := hc i hi
    have hbi := hb i hi
    have hki : (i : Int) < (bits.length : Int) := by omega
    have hF : atB bits i = nth bits i := by unfold atB; rw [if_pos hi]
    rw [hF]
    generalize nth bits i = z at hck hbi
    clear hc hb hF
    go_enter Try.func29, Try.ntmps29
    go_wp2
    go_ret
    exact ⟨by first | rfl | simp [*], rfl⟩
  · have hF : atB bits i = 0 := by unfold atB; rw [if_neg hi]
    rw [hF]
    clear hF
    have hki : ¬ (i : Int) < (bits.length : Int) := by omega
    go_enter Try.func29, Try.ntmps29
    go_wp2
    go_ret
    exact ⟨rfl, rfl⟩
end Go.Proofs.Ytgnamahdchefnaa
namespace Go.Proofs.Ytgnamahdchefnaa
open Go.RowKit Go.Shelf

def drawS (C : Con) (bits : List Int) : List Int := (List.range C.s.length).map (fun i => atB bits i % 2 ^ (nth C.s i).toNat)
def drawR (C : Con) (bits : List Int) : Rg := ⟨drawS C bits, atB bits C.s.length % 2 ^ C.co.toNat, atB bits (C.s.length + 1) % 2 ^ C.s.length⟩
theorem drawS_len (C : Con) (bits : List Int) : (drawS C bits).length = C.s.length := by simp [drawS]
theorem drawS_nth {C : Con} {bits : List Int} {i : Nat} (h : i < C.s.length) : nth (drawS C bits) i = atB bits i % 2 ^ (nth C.s i).toNat := by
  simp [drawS, nth, h]
theorem draw_ok (C : Con) (bits : List Int) : RegOk C (drawR C bits) := by
  have hp : ∀ n : Nat, (0 : Int) < 2 ^ n := fun n => Int.pow_pos (by omega)
  have hm : ∀ (a : Int) (n : Nat), 0 ≤ a % 2 ^ n ∧ a % 2 ^ n < 2 ^ n := fun a n => ⟨Int.emod_nonneg _ (by have := hp n; omega), Int.emod_lt_of_pos _ (hp n)⟩
  exact ⟨drawS_len C bits, fun k hk => by show 0 ≤ nth (drawS C bits) k ∧ nth (drawS C bits) k < _; rw [drawS_nth hk]; exact hm _ _, hm _ _, hm _ _⟩
theorem atB_nil (i : Nat) : atB [] i = 0 := by simp [atB]
theorem draw_nil (C : Con) : drawR C [] = noneR C := by
  have hs : drawS C [] = zeros C.s.length := by
    apply List.ext_getElem (by rw [drawS_len, zeros_len])
    intro i h1 h2
    simp [drawS, atB_nil, zeros]
  unfold drawR noneR
  rw [hs]
  simp [atB_nil]
theorem NewU.ofU {N : Nat} {κ : Nat → Role} {r : Role} {xs : List Int} {v : Value} {w : World} (h : RowU N κ r v xs w) : NewU N xs v w := fun _ _ hk => RowX.rekey h (fun b hb _ _ => hk b hb)
end Go.Proofs.Ytgnamahdchefnaa
namespace Go.Proofs.Ytgnamahdchefnaa
open Go.RowKit Go.Shelf

theorem mask_and {a : Int} (h : 0 ≤ a ∧ a < 256) {m : Nat} (hm : m ≤ 4) : Go.bits .and .u64 a (IntKind.u64.wrap (IntKind.u64.wrap (2 ^ m) - 1)) = a % 2 ^ m := by
  obtain ⟨n, rfl⟩ : ∃ n : Nat, a = n := ⟨a.toNat, by omega⟩
  have hw : IntKind.u64.wrap (IntKind.u64.wrap (2 ^ m) - 1) = ((2 ^ m - 1 : Nat) : Int) := by
    rcases (by omega : m = 0 ∨ m = 1 ∨ m = 2 ∨ m = 3 ∨ m = 4) with rfl | rfl | rfl | rfl | rfl <;> rfl
  have h2 : 2 ^ m ≤ 2 ^ 4 := Nat.pow_le_pow_right (by omega) hm
  rw [hw, u64_and_nat _ _ (by omega) (by omega), Nat.and_two_pow_sub_one_eq_mod]
  simp
theorem atB_byte {bits : List Int} (hb : ∀ k, k < bits.length → 0 ≤ nth bits k ∧ nth bits k < 256) (i : Nat) : 0 ≤ atB bits i ∧ atB bits i < 256 := by
  unfold atB
  split
  · rename_i h; exact hb i h
  · omega
theorem take_nth {xs : List Int} {k : Nat} (h : k < xs.length) : xs.take (k + 1) = xs.take k ++ [nth xs k] := by
  rw [List.take_succ_eq_append_getElem h]
  simp [nth, h]
/-- one number more -/
theorem RowU.push1 {lo : Nat} {κ κ' : Nat → Role} {r : Role} {v : Value} {xs : List Int} {z : Int} {w : World} (h : RowX lo κ' r 35 1 v (xs.length + 1) (capp (fun j => .int .u64 (nth xs j)) (xs.length * 1) [.int .u64 z]) w) (hk : ∀ b, κ b = r) : RowU lo κ r v (xs ++ [z]) w := by
  unfold RowU
  rw [show (xs ++ [z]).length = xs.length + 1 by simp]
  refine (h.rekey (fun b _ _ _ => hk b)).congr (fun k hk2 => ?_)
  unfold capp
  by_cases h1 : k < xs.length
  · rw [if_pos (by omega)]
    simp [nth, List.getElem?_append_left h1]
  · have h2 : k = xs.length := by omega
    subst h2
    rw [if_neg (by omega)]
    simp [nth]
end Go.Proofs.Ytgnamahdchefnaa
namespace Go.Proofs.Ytgnamahdchefnaa
open Go.RowKit Go.Shelf

/-- a bit is set -/
def bitT (x : Int) (i : Nat) : Bool := decide (Go.bits BinOp.and .u64 (x / 2 ^ i) 1 = 1)
def xorI (a b : Int) : Int := Go.bits BinOp.xor .u64 a b
def turnF (k d x : Int) (n : Nat) : List Ev := ((List.range n).filter (bitT x)).map (fun i : Nat => (⟨k, d, (i : Int)⟩ : Ev))
/-- the events between two registrations -/
def stopsF (a b : List Int) (ns : Nat → Nat) (n : Nat) : List Ev := (List.range n).flatMap (fun i : Nat => turnF 1 i (xorI (nth a i) (nth b i)) (ns i))
def changeF (a b : Rg) : List Ev := stopsF a.s b.s (fun _ => 64) a.s.length ++ turnF 2 0 (xorI a.c b.c) 64 ++ turnF 3 0 (xorI a.o b.o) 64
/-- the same, bit by bit of those that there are -/
def ownF (C : Con) (a b : Rg) : List Ev := stopsF a.s b.s (fun i => (nth C.s i).toNat) C.s.length ++ turnF 2 0 (xorI a.c b.c) C.co.toNat ++ turnF 3 0 (xorI a.o b.o) C.s.length
theorem bit_nat {x : Nat} (h : x < 16) (i : Nat) : bitT (x : Int) i = x.testBit i := by
  unfold bitT
  have e1 : (x : Int) / 2 ^ i = ((x / 2 ^ i : Nat) : Int) := by simp
  have h2 : x / 2 ^ i ≤ x := Nat.div_le_self _ _
  have e2 : Go.bits BinOp.and .u64 ((x / 2 ^ i : Nat) : Int) 1 = ((x / 2 ^ i &&& 1 : Nat) : Int) := u64_and_nat (x / 2 ^ i) 1 (by omega) (by omega)
  rw [e1, e2, Nat.and_one_is_mod, Nat.testBit_eq_decide_div_mod_eq]
  simp only [decide_eq_decide]
  omega
theorem xor_nat {a b n : Nat} (hn : n ≤ 4) (ha : a < 2 ^ n) (hb : b < 2 ^ n) : xorI (a : Int) (b : Int) = ((a ^^^ b : Nat) : Int) ∧ a ^^^ b < 2 ^ n ∧ 2 ^ n ≤ 16 := by
  have h16 := (pow_small hn).1
  exact ⟨u64_xor_nat a b (by omega) (by omega), Nat.xor_lt_two_pow ha hb, h16⟩
theorem range_split (n m : Nat) : List.range (n + m) = List.range n ++ (List.range m).map (n + ·) := List.range_add
theorem turn_trim {k d x : Int} {n : Nat} (hn : n ≤ 4) (hx : 0 ≤ x ∧ x < 2 ^ n) : turnF k d x 64 = turnF k d x n := by
  obtain ⟨y, rfl⟩ : ∃ y : Nat, x = y := ⟨x.toNat, by omega⟩
  have h16 := (pow_small hn).1
  have hy : y < 2 ^ n := by have := hx.2; rw [← pow_cast] at this; omega
  unfold turnF
  rw [show 64 = n + (64 - n) by omega, range_split, List.filter_append]
  have : ((List.range (64 - n)).map (n + ·)).filter (bitT (y : Int)) = [] := by
    rw [List.filter_eq_nil_iff]
    intro i hi
    obtain ⟨j, -, rfl⟩ := List.mem_map.1 hi
    rw [bit_nat (by omega), Nat.testBit_lt_two_pow (Nat.lt_of_lt_of_le hy (Nat.pow_le_pow_right (by omega) (by omega)))]
    simp
  rw [this, List.append_nil]
theorem xor_lt {a b : Int} {n : Nat} (hn : n ≤ 4) (ha : 0 ≤ a ∧ a < 2 ^ n) (hb : 0 ≤ b ∧ b < 2 ^ n) : 0 ≤ xorI a b ∧ xorI a b < 2 ^ n := by
  obtain ⟨x, rfl⟩ : ∃ x : Nat, a = x := ⟨a.toNat, by omega⟩
  obtain ⟨y, rfl⟩ : ∃ y : Nat, b = y := ⟨b.toNat, by omega⟩
  have hx : x < 2 ^ n := by have := ha.2; rw [← pow_cast] at this; omega
  have hy : y < 2 ^ n := by have := hb.2; rw [← pow_cast] at this; omega
  obtain ⟨h1, h2, h3⟩ := xor_nat hn hx hy
  rw [h1, ← pow_cast]
  omega
theorem change_own {C : Con} {a b : Rg} (hC : C.Ok) (ha : RegOk C a) (hb : RegOk C b) : changeF a b = ownF C a b := by
  have h1 : stopsF a.s b.s (fun _ => 64) a.s.length = stopsF a.s b.s (fun i => (nth C.s i).toNat) C.s.length := by
    unfold stopsF
    rw [ha.n]
    rw [List.flatMap_def, List.flatMap_def]
    congr 1
    refine List.map_congr_left (fun i hi => ?_)
    have hi' := List.mem_range.1 hi
    have h4 : (nth C.s i).toNat ≤ 4 := by have := hC.s i; omega
    exact turn_trim h4 (xor_lt h4 (ha.s i hi') (hb.s i hi'))
  unfold changeF ownF
  have hco := hC.co
  have hn := hC.n
  rw [h1, turn_trim (by omega) (xor_lt (by omega) ha.c hb.c), turn_trim (by omega) (xor_lt (by omega) ha.o hb.o)]
/-- all bits that differ, turned -/
theorem fold_nat : ∀ a, a < 16 → ∀ x, x < 16 → ((List.range 4).filter (fun i => x.testBit i)).foldl (fun z i => z ^^^ 2 ^ i) a = a ^^^ x := by decide
theorem fold_tog : ∀ (is : List Nat) (a : Nat), a < 16 → (∀ i ∈ is, i < 4) → is.foldl tog (a : Int) = ((is.foldl (fun z i => z ^^^ 2 ^ i) a : Nat) : Int)
  | [], _, _, _ => rfl
  | i :: is, a, ha, hi => by
    have h4 : i < 4 := hi i (by simp)
    rw [List.foldl_cons, List.foldl_cons, tog_nat ha (by omega)]
    exact fold_tog is _ (Nat.xor_lt_two_pow (n := 4) ha (Nat.pow_lt_pow_right (by omega) h4)) (fun j hj => hi j (by simp [hj]))
theorem fold_xor {a b : Int} {n : Nat} (hn : n ≤ 4) (ha : 0 ≤ a ∧ a < 2 ^ n) (hb : 0 ≤ b ∧ b < 2 ^ n) : ((List.range n).filter (bitT (xorI a b))).foldl tog a = b := by
  obtain ⟨x, rfl⟩ : ∃ x : Nat, a = x := ⟨a.toNat, by omega⟩
  obtain ⟨y, rfl⟩ : ∃ y : Nat, b = y := ⟨b.toNat, by omega⟩
  have hx : x < 2 ^ n := by have := ha.2; rw [← pow_cast] at this; omega
  have hy : y < 2 ^ n := by have := hb.2; rw [← pow_cast] at this; omega
  obtain ⟨h1, h2, h3⟩ := xor_nat hn hx hy
  have e1 : (List.range n).filter (bitT (xorI (x : Int) y)) = (List.range 4).filter (fun i => (x ^^^ y).testBit i) := by
    rw [h1, show 4 = n + (4 - n) by omega, range_split, List.filter_append]
    have : ((List.range (4 - n)).map (n + ·)).filter (fun i => (x ^^^ y).testBit i) = [] := by
      rw [List.filter_eq_nil_iff]
      intro i hi
      obtain ⟨j, -, rfl⟩ := List.mem_map.1 hi
      rw [Nat.testBit_lt_two_pow (Nat.lt_of_lt_of_le h2 (Nat.pow_le_pow_right (by omega) (by omega)))]
      simp
    rw [this, List.append_nil]
    exact List.filter_congr (fun i _ => bit_nat (by omega) i)
  rw [e1, fold_tog _ _ (by omega) (fun i hi => by simpa using (List.mem_filter.1 hi).1), fold_nat x (by omega) (x ^^^ y) (by omega), ← Nat.xor_assoc, Nat.xor_self, Nat.zero_xor]
/-- what an event of the first three kinds draws -/
def regF (r : Rg) (e : Ev) : Rg :=
  if e.k = 1 then ⟨r.s.set e.d.toNat (tog (nth r.s e.d.toNat) e.i.toNat), r.c, r.o⟩
  else if e.k = 2 then ⟨r.s, tog r.c e.i.toNat, r.o⟩
  else ⟨r.s, r.c, tog r.o e.i.toNat⟩
/-- an event of the first three kinds that is possible whatever the state -/
def Plain (C : Con) (e : Ev) : Prop := (e.k = 1 ∧ 0 ≤ e.d ∧ e.d < C.s.length ∧ 0 ≤ e.i ∧ e.i < nth C.s e.d.toNat) ∨ (e.k = 2 ∧ 0 ≤ e.i ∧ e.i < C.co) ∨ (e.k = 3 ∧ 0 ≤ e.i ∧ e.i < C.s.length)
theorem Plain.pos {C : Con} {e : Ev} (h : Plain C e) (st : St) : posF C st e.k e.d e.i = 0 := by
  unfold posF
  rcases h with ⟨h1, h2⟩ | ⟨h1, h2⟩ | ⟨h1, h2⟩ <;> rw [h1]
  · rw [if_pos rfl, if_pos h2]
  · rw [if_neg (by omega), if_neg (by omega), if_pos rfl, if_pos h2]
  · rw [if_neg (by omega), if_neg (by omega), if_neg (by omega), if_pos rfl, if_pos h2]
theorem Plain.step {C : Con} {e : Ev} (h : Plain C e) (st : St) : (stepF C st e).d = regF st.d e := by
  unfold stepF
  rw [if_pos (h.pos st)]
  unfold doF
  have h10 : ¬ e.k = 10 := by rcases h with ⟨h1, h2⟩ | ⟨h1, h2⟩ | ⟨h1, h2⟩ <;> omega
  rw [if_neg h10, (push_keep _ _).1]
  unfold actF regF
  rcases h with ⟨h1, h2⟩ | ⟨h1, h2⟩ | ⟨h1, h2⟩ <;> rw [h1]
  · rw [if_pos rfl, if_pos rfl]
  · rw [if_neg (by omega), if_pos rfl, if_neg (by omega), if_pos rfl]
  · rw [if_neg (by omega), if_neg (by omega), if_pos rfl, if_neg (by omega), if_neg (by omega)]
theorem plain_all {C : Con} {l : List Ev} (h : ∀ e ∈ l, Plain C e) (st : St) : AllPos C st l := fun k hk => by
  have : get l k ∈ l := by rw [get_lt hk]; exact List.getElem_mem hk
  exact (h _ this).pos _
theorem plain_d {C : Con} : ∀ (l : List Ev) (st : St), (∀ e ∈ l, Plain C e) → (afterF C st l).d = l.foldl regF st.d
  | [], _, _ => rfl
  | e :: l, st, h => by
    show (afterF C (stepF C st e) l).d = _
    rw [plain_d l _ (fun e' he => h e' (by simp [he])), (h e (by simp)).step, List.foldl_cons]
theorem fold_c (s : List Int) (o : Int) (d : Int) : ∀ (is : List Nat) (c : Int), (is.map (fun i : Nat => (⟨2, d, (i : Int)⟩ : Ev))).foldl regF ⟨s, c, o⟩ = ⟨s, is.foldl tog c, o⟩
  | [], _ => rfl
  | i :: is, c => by
    rw [List.map_cons, List.foldl_cons, List.foldl_cons, ← fold_c s o d is (tog c i)]
    congr 1
theorem fold_o (s : List Int) (c : Int) (d : Int) : ∀ (is : List Nat) (o : Int), (is.map (fun i : Nat => (⟨3, d, (i : Int)⟩ : Ev))).foldl regF ⟨s, c, o⟩ = ⟨s, c, is.foldl tog o⟩
  | [], _ => rfl
  | i :: is, o => by
    rw [List.map_cons, List.foldl_cons, List.foldl_cons, ← fold_o s c d is (tog o i)]
    congr 1
theorem fold_s (c o : Int) (d : Nat) : ∀ (is : List Nat) (s : List Int), d < s.length → (is.map (fun i : Nat => (⟨1, (d : Int), (i : Int)⟩ : Ev))).foldl regF ⟨s, c, o⟩ = ⟨s.set d (is.foldl tog (nth s d)), c, o⟩
  | [], s, h => by
    have : s.set d (nth s d) = s := by simp [nth, h]
    simp [this]
  | i :: is, s, h => by
    have e1 : regF ⟨s, c, o⟩ ⟨1, (d : Int), (i : Int)⟩ = ⟨s.set d (tog (nth s d) i), c, o⟩ := by simp [regF]
    rw [List.map_cons, List.foldl_cons, e1, fold_s c o d is _ (by simpa using h), List.foldl_cons, List.set_set, nth_set h, if_pos rfl]
theorem turn_plain {C : Con} {k d x : Int} {n : Nat} (h : ∀ i : Nat, i < n → Plain C ⟨k, d, (i : Int)⟩) : ∀ e ∈ turnF k d x n, Plain C e := fun e he => by
  obtain ⟨i, hi, rfl⟩ := List.mem_map.1 he
  exact h i (by simpa using (List.mem_filter.1 hi).1)
theorem own_plain {C : Con} (hC : C.Ok) (a b : Rg) : ∀ e ∈ ownF C a b, Plain C e := fun e he => by
  unfold ownF at he
  have hco := hC.co
  rcases List.mem_append.1 he with he | he
  · rcases List.mem_append.1 he with he | he
    · obtain ⟨d, hd, he⟩ := List.mem_flatMap.1 he
      have hd' := List.mem_range.1 hd
      have hs := hC.s d
      exact turn_plain (fun i hi => .inl ⟨rfl, by show (0 : Int) ≤ (d : Int); omega, by show (d : Int) < _; omega, by show (0 : Int) ≤ (i : Int); omega, by show (i : Int) < nth C.s ((d : Int)).toNat; rw [Int.toNat_natCast]; have hi2 : i < (nth C.s d).toNat := hi; omega⟩) e he
    · exact turn_plain (fun i hi => .inr (.inl ⟨rfl, by show (0 : Int) ≤ (i : Int); omega, by show (i : Int) < _; omega⟩)) e he
  · exact turn_plain (fun i hi => .inr (.inr ⟨rfl, by show (0 : Int) ≤ (i : Int); omega, by show (i : Int) < _; omega⟩)) e he
theorem fold_stops {C : Con} {a b : Rg} (hC : C.Ok) (ha : RegOk C a) (hb : RegOk C b) (c o : Int) : ∀ k, k ≤ C.s.length → (stopsF a.s b.s (fun i => (nth C.s i).toNat) k).foldl regF ⟨a.s, c, o⟩ = ⟨b.s.take k ++ a.s.drop k, c, o⟩
  | 0, _ => by simp [stopsF]
  | k + 1, hk => by
    have ih := fold_stops hC ha hb c o k (by omega)
    have e1 : stopsF a.s b.s (fun i => (nth C.s i).toNat) (k + 1) = stopsF a.s b.s (fun i => (nth C.s i).toNat) k ++ turnF 1 k (xorI (nth a.s k) (nth b.s k)) (nth C.s k).toNat := by
      unfold stopsF
      rw [List.range_succ, List.flatMap_append]
      simp
    have han := ha.n
    have hbn := hb.n
    have hl : (b.s.take k ++ a.s.drop k).length = C.s.length := by simp; omega
    have hnk : nth (b.s.take k ++ a.s.drop k) k = nth a.s k := by
      unfold nth
      rw [List.getElem?_append_right (List.length_take_le _ _), List.getElem?_drop, List.length_take, show k + (k - min k b.s.length) = k by omega]
    have hs := hC.s k
    rw [e1, List.foldl_append, ih]
    unfold turnF
    rw [fold_s c o k _ _ (by omega), hnk, fold_xor (by omega) (ha.s k (by omega)) (hb.s k (by omega))]
    congr 1
    apply List.ext_getElem (by simp; omega)
    intro j h1 h2
    rw [List.getElem_set]
    by_cases e : k = j
    · subst e
      rw [if_pos rfl, List.getElem_append_left (by simp; omega), List.getElem_take]
      simp [nth, show k < b.s.length by omega]
    · rw [if_neg e]
      rcases Nat.lt_or_ge j k with h3 | h3
      · rw [List.getElem_append_left (by simp; omega), List.getElem_append_left (by simp; omega), List.getElem_take, List.getElem_take]
      · rw [List.getElem_append_right (by simp; omega), List.getElem_append_right (by simp; omega), List.getElem_drop, List.getElem_drop]
        congr 1
        simp
        omega
theorem own_draws {C : Con} {a b : Rg} (hC : C.Ok) (ha : RegOk C a) (hb : RegOk C b) : (ownF C a b).foldl regF a = b := by
  unfold ownF
  have han := ha.n
  have hbn := hb.n
  have hco := hC.co
  obtain ⟨al, ac, ao⟩ := a
  obtain ⟨bl, bc, bo⟩ := b
  have h1 := fold_stops hC ha hb ac ao C.s.length (Nat.le_refl _)
  have e1 : bl.take C.s.length ++ al.drop C.s.length = bl := by
    rw [List.take_of_length_le (by simp only at hbn; omega), List.drop_of_length_le (by simp only at han; omega), List.append_nil]
  simp only at h1 ⊢
  rw [e1] at h1
  rw [List.foldl_append, List.foldl_append, h1]
  unfold turnF
  rw [fold_c, fold_o, fold_xor (by omega) ha.c hb.c, fold_xor (by have := hC.n; omega) ha.o hb.o]
/-- the Changes to a registration, done, draw it -/
theorem change_draws {C : Con} {st : St} {b : Rg} (hC : C.Ok) (ha : RegOk C st.d) (hb : RegOk C b) : AllPos C st (changeF st.d b) ∧ (afterF C st (changeF st.d b)).d = b := by
  rw [change_own hC ha hb]
  exact ⟨plain_all (own_plain hC _ _) st, by rw [plain_d _ _ (own_plain hC _ _), own_draws hC ha hb]⟩
/-- there are few of them -/
theorem turn_len (k d x : Int) (n : Nat) : (turnF k d x n).length ≤ n := by
  unfold turnF
  rw [List.length_map]
  exact Nat.le_trans (List.length_filter_le _ _) (by simp)
theorem stops_len (a b : List Int) : ∀ n, (stopsF a b (fun _ => 64) n).length ≤ 64 * n
  | 0 => by simp [stopsF]
  | n + 1 => by
    have ih := stops_len a b n
    have h := turn_len 1 n (xorI (nth a n) (nth b n)) 64
    unfold stopsF at ih ⊢
    rw [List.range_succ, List.flatMap_append, List.length_append]
    simp at ih ⊢
    omega
theorem change_len (a b : Rg) (h : a.s.length ≤ 3) : (changeF a b).length ≤ 320 := by
  unfold changeF
  rw [List.length_append, List.length_append]
  have h1 := stops_len a.s b.s a.s.length
  have h2 := turn_len 2 0 (xorI a.c b.c) 64
  have h3 := turn_len 3 0 (xorI a.o b.o) 64
  omega
end Go.Proofs.Ytgnamahdchefnaa
