/- The contract of give: the children of a node take what is left, one after the other. Conditions: at most 30 nodes. -/
import Derived.Test.YtfefocgekmeahaaW3
namespace Go.Proofs.Ytfefocgekmeahaa
open Go.RowKit Go.Shelf
attribute [local go_sem] Oper.semAt_some

/-- one child takes what it wants, or what is left -/
def giv (ws : List Int) (s : List Int × Int) (k : Nat) : List Int × Int := (s.1.set k (min (nth ws k) s.2), s.2 - min (nth ws k) s.2)
def givL {n : Nat} (ws : List Int) (s : List Int × Int) (pre : List (Fin n)) : List Int × Int := pre.foldl (fun s k => giv ws s k.val) s
theorem givL_snoc {n : Nat} (ws : List Int) (s : List Int × Int) (pre : List (Fin n)) (x : Fin n) : givL ws s (pre ++ [x]) = giv ws (givL ws s pre) x.val := by simp [givL]
theorem givL_kids {ns : List Nd} {ws : List Int} {i : Int} {s : List Int × Int} : ∀ k : Nat, k ≤ ns.length → givL ws s (kidsT ns i k) = gv ns ws i s k
  | 0, _ => rfl
  | k + 1, h => by
    have ih := givL_kids (ns := ns) (ws := ws) (i := i) (s := s) k (by omega)
    by_cases hp : (nd ns k).p = i
    · rw [kidsT_yes (ns := ns) (k := k) (by omega) hp, givL_snoc, ih, gv_yes hp]
      rfl
    · rw [kidsT_no (ns := ns) (k := k) (by omega) hp, ih, gv_no hp]
theorem givL_all {ns : List Nd} {ws : List Int} {i : Int} {s : List Int × Int} : givL ws s (kids ns i) = gv ns ws i s ns.length := by rw [← kidsT_all]; exact givL_kids _ (Nat.le_refl _)
theorem givL_bd {n : Nat} {ws : List Int} {s : List Int × Int} (hw : ∀ k, 0 ≤ nth ws k) (hs : 0 ≤ s.2) (pre : List (Fin n)) : 0 ≤ (givL ws s pre).2 ∧ (givL ws s pre).2 ≤ s.2 := by
  revert s
  induction pre with
  | nil => intro s hs; exact ⟨hs, Int.le_refl _⟩
  | cons x pre ih =>
    intro s hs
    have h1 := hw x.val
    have h2 := ih (s := giv ws s x.val) (by unfold giv; simp only; omega)
    have h3 : (giv ws s x.val).2 = s.2 - min (nth ws x.val) s.2 := rfl
    show 0 ≤ (givL ws (giv ws s x.val) pre).2 ∧ (givL ws (giv ws s x.val) pre).2 ≤ s.2
    omega
theorem givL_len {n : Nat} {ws : List Int} {s : List Int × Int} (pre : List (Fin n)) : (givL ws s pre).1.length = s.1.length := by
  revert s
  induction pre with
  | nil => intro s; rfl
  | cons x pre ih =>
    intro s
    show (givL ws (giv ws s x.val) pre).1.length = _
    rw [ih]
    simp [giv]

theorem below_row {W W' : World} (h : Below W.heap.size W W') (row : Option Nat) : W.grownBy W' row := ⟨h.os, h.tape, h.output, h.size, fun k hk _ => h.block k hk⟩
theorem grown_drew1 {a c : World} {row : Option Nat} (h : a.grownBy c row) : a.grownBy c.drew row := ⟨h.os, h.tape, h.output, h.size, h.block⟩
theorem grown_high {a c : World} {row : Option Nat} (h : a.grownBy c row) {p : Addr} (hp : a.heap.size ≤ p.block) (u : Value) : a.grownBy (c.setCell p u) row :=
  ⟨h.os, h.tape, h.output, Nat.le_trans h.size (KeepsWalks.setCell c p u).size, fun k hk hne => (Below.heap_setCell c p u k (by omega)).trans (h.block k hk hne)⟩
theorem NumSl.kept {K : IntKind} {w w' : World} {v : Value} {xs : List Int} {row : Option Nat} (h : NumSl K w v xs) (hg : w.grownBy w' row) (hne : ∀ b, v.ownBlock = some b → 0 < xs.length → row ≠ some b) : NumSl K w' v xs := by
  rcases h with h | ⟨b, off, cap, rfl, hc⟩
  · exact .inl h
  · exact .inr ⟨b, off, cap, rfl, fun i hi => hg.cell (a := ⟨b, off + i, none⟩) (hc i hi) (fun e => hne b rfl (by omega) e.symm)⟩
theorem NumSl.atN {K : IntKind} {w : World} {v : Value} {xs : List Int} {n : Nat} (h : NumSl K w v xs) (hl : xs.length = n) {k : Nat} (hk : k < n) : ∃ b off cap, v = .slice (some ⟨b, off, none⟩) n cap ∧ ∀ i, i < n → w.cell? ⟨b, off + i, none⟩ = some (.int K (nth xs i)) := by
  subst hl
  exact h.at hk

def GivePost (base g : Nat) (tv : Value) (n : Nat) (s : List Int × Int) (w : World) (e : Ending) (w' : World) : Prop :=
  e = .returned (.int .i64 s.2) ∧ w.grownBy w' (some g) ∧ RowG base g tv n s.1 w'

set_option maxRecDepth 100000 in
set_option maxHeartbeats 4000000 in
theorem give_any (sup i left : Int) (v : Value) (ns : List Nd) (wv : Value) (ws : List Int) (lv tv kv : Value) (tk : List Int) (base g Bp Bw Bs : Nat) (w : World)
    (hp : BoxC w Bp 24 #[.int .i64 sup, v]) (hw : BoxC w Bw 39 #[wv]) (hs : BoxC w Bs 44 #[lv, tv, kv]) (hv : NdSl w v ns) (hn : ns.length ≤ 30) (hws : NumSl .i64 w wv ws) (hwl : ws.length = ns.length)
    (htv : ∃ a c, tv = .slice a ns.length c) (hr : RowG base g tv ns.length tk w) (hvg : ∀ b, v.ownBlock = some b → 0 < ns.length → b ≠ g) (hwg : ∀ b, wv.ownBlock = some b → 0 < ns.length → b ≠ g)
    (hwb : ∀ k, 0 ≤ nth ws k ∧ nth ws k ≤ 1000000000) (hl0 : 0 ≤ left) (hl1 : left ≤ 2000000000) :
    Calls Try.prog 56 #[.int .i64 i, .int .i64 left, .pointer (some ⟨Bp, 0, none⟩), .pointer (some ⟨Bw, 0, none⟩), .pointer (some ⟨Bs, 0, none⟩)] w (GivePost base g tv ns.length (gv ns ws i (tk, left) ns.length) w) := by
  obtain ⟨av, cv, rfl⟩ := hv.len
  obtain ⟨aw, cw, hwv⟩ := hws.len
  rw [hwl] at hwv
  subst hwv
  obtain ⟨at', ct, rfl⟩ := htv
  obtain ⟨F, hF⟩ : ∃ F, gv ns ws i (tk, left) ns.length = F := ⟨_, rfl⟩
  rw [hF]
  replace hF := Lib.hid hF
  replace hwl := Lib.hid hwl
  refine (callsIn_wide (n := 9)).1 ?_
  refine callsIn_of_wp_marks Try.func56 rfl trivial ?_ rfl
  simp only [Try.ntmps56, List.size_toArray, List.length_cons, List.length_nil, Nat.reduceAdd, Nat.reduceSub, Array.replicate_succ, Array.replicate_zero, List.push_toArray, List.append_toArray, List.nil_append, List.cons_append]
  have hA := (Below.refl w.heap.size w).alloc (Nat.le_refl _) (.cells #[.int .i64 left] 3)
  have p0 := (hp.grown hA).cell 0 rfl
  have p1 := (hp.grown hA).cell 1 rfl
  have hfz : World.frozen? (w.alloc (.cells #[.int .i64 left] 3)) ⟨Bp, 0, none⟩ = false := (hp.grown hA).frozen 0
  gi_wp2_with (refine ⟨trivial, ?_⟩; gi_at_call 55; refine (callsIn_wide.2 (children_any _ _ _ av ns.length cv rfl _)).mono ?_; rintro e w' ⟨rfl, rfl⟩)
  have bL := ((BoxC.new w 3 #[.int .i64 left]).alloc (.cells #[.int .i64 sup, .slice av ns.length cv] 24)).alloc (.cells #[.int .i64 i] 3)
  have bP := (BoxC.new (w.alloc (.cells #[.int .i64 left] 3)) 24 #[.int .i64 sup, .slice av ns.length cv]).alloc (.cells #[.int .i64 i] 3)
  have bI := BoxC.new ((w.alloc (.cells #[.int .i64 left] 3)).alloc (.cells #[.int .i64 sup, .slice av ns.length cv] 24)) 3 #[.int .i64 i]
  simp only [World.size_alloc] at bP bI
  have hsz : (((w.alloc (.cells #[.int .i64 left] 3)).alloc (.cells #[.int .i64 sup, .slice av ns.length cv] 24)).alloc (.cells #[.int .i64 i] 3)).heap.size = w.heap.size + 3 := by simp
  have hbW : Below w.heap.size w (((w.alloc (.cells #[.int .i64 left] 3)).alloc (.cells #[.int .i64 sup, .slice av ns.length cv] 24)).alloc (.cells #[.int .i64 i] 3)) := (((Below.refl _ w).alloc (Nat.le_refl _) _).alloc (by simp) _).alloc (by simp; omega) _
  have hr0 := hr.grown hbW
  have hv0 := hv.mono hbW
  have hgW := below_row hbW (some g)
  have hBs := hr.ne_box hs (by decide)
  have hBw := hr.ne_box hw (by decide)
  have hglt := fun h => (hr.lt h).2
  clear p0 p1 hfz hA hr
  generalize (((w.alloc (.cells #[.int .i64 left] 3)).alloc (.cells #[.int .i64 sup, .slice av ns.length cv] 24)).alloc (.cells #[.int .i64 i] 3)) = W0 at hsz bL bP bI hbW hr0 hv0 hgW ⊢
  refine wpIn_rangeFunc_ownG_of_H rfl (by omega) (gf := 58) (lb := #[.pointer (some ⟨w.heap.size + 1, 0, none⟩), .pointer (some ⟨w.heap.size + 1 + 1, 0, none⟩)]) rfl trivial (enters_of Try.func58 (by kernel_rfl) rfl)
    (children_stops 8 (by omega) (fun k => (0 < ns.length ∧ k = g) ∨ k = w.heap.size) sup i _ ns (by omega) W0 _ _ bP bI hv0 ?hvn ?hmp ?hmi)
    Keeps.trans (Keeps.putObj (by simp)) (Below.refl _ _) (fun _ => rfl)
    (fun pre W => w.grownBy W (some g) ∧ RowG base g (.slice at' ns.length ct) ns.length (givL ws (tk, left) pre).1 W ∧ BoxC W w.heap.size 3 #[.int .i64 (givL ws (tk, left) pre).2])
    (fun _ _ _ => False)
    (OwnFrom.and (grownBy_own (by omega)) (OwnFrom.and (rowG_own _ _ _ _ _ _) (Own.from (boxC_own _ _ (fun pre => #[Value.int .i64 (givL ws (tk, left) pre).2])) _)))
    (fun _ _ _ _ _ hs _ _ => hs)
    ⟨hgW, hr0, bL⟩
    (fun x => { tmps := #[.int .i64 i, .int .i64 left, .pointer (some ⟨Bp, 0, none⟩), .pointer (some ⟨Bw, 0, none⟩), .pointer (some ⟨Bs, 0, none⟩), undef, .pointer (some ⟨w.heap.size, 0, none⟩), .int .i64 0, .int .i64 x.val, .agg #[.int .i64 sup, .slice av ns.length cv], .int .i64 i, .func (.func 58) #[] #[.pointer (some ⟨w.heap.size + 1, 0, none⟩), .pointer (some ⟨w.heap.size + 1 + 1, 0, none⟩)], .int .i64 x.val, undef, undef, undef, undef, undef, undef, undef, undef, undef, undef, undef, undef, undef, undef, undef, undef, undef, undef], defers := [] })
    ?assign ?body ?done ?stop (fun W => Keeps.refl _ _ W)
  case hvn =>
    rintro b hb h0 (⟨_, rfl⟩ | rfl)
    · exact hvg _ hb h0 rfl
    · obtain ⟨b', h1, h2⟩ := hv.own h0
      rw [hb] at h1
      cases h1
      omega
  case hmp =>
    rintro (⟨h0, h1⟩ | h1)
    · have := hglt h0; omega
    · omega
  case hmi =>
    rintro (⟨h0, h1⟩ | h1)
    · have := hglt h0; omega
    · omega
  case assign =>
    intro j x W K hK
    gi_wp2
    exact hK
  case body =>
    rintro j pre x W ⟨hI1, hI2, hI3⟩ hlen
    have hx := x.isLt
    have h0 : 0 < ns.length := by omega
    have hlb := givL_bd (ws := ws) (s := (tk, left)) (fun k => (hwb k).1) hl0 pre
    have hSn := givL_snoc ws (tk, left) pre x
    generalize hS : givL ws (tk, left) pre = S at hI2 hI3 hlb hSn
    obtain ⟨T, L⟩ := S
    simp only at hI2 hI3 hlb hSn
    unfold giv at hSn
    simp only at hSn
    replace hSn := Lib.hid hSn
    have bS := hs.kept hI1 (fun e => hBs h0 (by cases e; rfl))
    have bW := hw.kept hI1 (fun e => hBw h0 (by cases e; rfl))
    have hwsW := (hws.kept hI1 (fun b hb _ e => hwg b hb h0 (by cases e; rfl))).atN hwl.out hx
    obtain ⟨bw, ofw, cpw, hew, hcw⟩ := hwsW
    cases hew
    obtain ⟨cap, het, _⟩ := hI2.2 h0
    cases het
    have cw0 := hcw x.val hx
    have hwx := hwb x.val
    have hgne : w.heap.size ≠ g := fun e => by have := hglt h0; omega
    have e1 : IntKind.i64.wrap (L - min (nth ws x.val) L) = L - min (nth ws x.val) L := IntWalk.i64_in _ (by omega)
    clear hcw hS
    generalize nth ws x.val = z at cw0 hwx hSn e1
    have c1 := bS.cell 1 rfl
    have c2 := bW.cell 0 rfl
    have c3 := hI3.cell 0 rfl
    have c4 := hI2.cell hx
    have f4 := hI2.frozen h0 x.val
    have hxi : ((x.val : Nat) : Int) < (ns.length : Int) := by omega
    gi_wp2_with fail
    refine region_tail_round 10 (by kernel_rfl) (by kernel_rfl) (by kernel_rfl) ?_
    simp only [List.take_succ_cons, List.take_zero, List.drop_succ_cons, List.drop_zero]
    repeat still_step
    refine wpStill_nil ?_
    have hmin : (if L < z then L else z) = min z L := by split <;> omega
    rw [hmin]
    clear hmin c1 c2 c3 c4 f4 cw0
    have hmv : 0 ≤ min z L ∧ min z L ≤ L := by omega
    generalize min z L = mv at hSn e1 hmv ⊢
    have hbd : Below W.heap.size W W.drew := (Below.refl _ _).drew
    have i1 := grown_drew1 hI1
    have i2 := hI2.drew
    have i3 := hI3.drew
    have iS := bS.drew
    have hkf := keepsFrom_grown (B := W0.heap.size) hbd
    have hkp := Keeps.grown (m := fun k => (0 < ns.length ∧ k = g) ∨ k = w.heap.size) (B := none) hbd (by simp)
    generalize W.drew = W6 at i1 i2 i3 iS hkf hkp ⊢
    clear hI1 hI2 hI3 bS bW hbd
    have c4 := i2.cell hx
    have f4 := i2.frozen h0 x.val
    have s1 := grownBy_trans i1 (grownBy_setCell W6 ⟨g, x.val, none⟩ (.int .i64 mv))
    have s2 := i2.set x.val mv
    have s3 := i3.other (p := ⟨g, x.val, none⟩) hgne (.int .i64 mv)
    have sS := iS.other (p := ⟨g, x.val, none⟩) (hBs h0) (.int .i64 mv)
    have sf := hkf.trans ((KeepsOthers.setCell W6 ⟨g, x.val, none⟩ (.int .i64 mv)).from _)
    have sp := hkp.trans (Keeps.setCell (m := fun k => (0 < ns.length ∧ k = g) ∨ k = w.heap.size) (B := none) W6 (p := ⟨g, x.val, none⟩) (.int .i64 mv) (.inl ⟨h0, rfl⟩) (by simp))
    have hTl := i2.1
    clear i1 i3 iS hkf hkp
    go_wp2
    refine ⟨by simp, ?_⟩
    clear c4 f4 i2
    generalize W6.setCell ⟨g, x.val, none⟩ (.int .i64 mv) = W7 at s1 s2 s3 sS sf sp ⊢
    have c4 := s2.cell hx
    rw [nth_set (by rw [hTl]; exact hx), if_pos rfl] at c4
    have c1 := sS.cell 1 rfl
    have c3 := s3.cell 0 rfl
    have f3 := s3.frozen 0
    gi_wp2_with fail
    refine region_tail_round 7 (by kernel_rfl) (by kernel_rfl) (by kernel_rfl) ?_
    simp only [List.take_succ_cons, List.take_zero, List.drop_succ_cons, List.drop_zero]
    repeat still_step
    refine wpStill_nil ?_
    clear c1 c3 c4 f3
    have hbd : Below W7.heap.size W7 W7.drew := (Below.refl _ _).drew
    have i1 := grown_drew1 s1
    have i2 := s2.drew
    have i3 := s3.drew
    have hkf := sf.trans (keepsFrom_grown (B := W0.heap.size) hbd)
    have hkp := sp.trans (Keeps.grown (m := fun k => (0 < ns.length ∧ k = g) ∨ k = w.heap.size) (B := none) hbd (by simp))
    generalize W7.drew = W8 at i1 i2 i3 hkf hkp ⊢
    clear s1 s2 s3 sS sf sp hbd e1
    have c3 := i3.cell 0 rfl
    have f3 := i3.frozen 0
    go_wp2
    refine ⟨by simp, ?_⟩
    gi_wp2
    refine ⟨hkf.trans ((KeepsOthers.setCell _ _ _).from _), hkp.trans (Keeps.setCell _ _ (.inr rfl) (by simp)), grown_high i1 (by simp) _, ?_, ?_⟩
    · rw [hSn.out]
      exact i2.other (fun _ => hgne) _
    · rw [hSn.out]
      exact i3.set 0 _
  case done =>
    rintro D ys W hD rfl ⟨hI1, hI2, hI3⟩ hK
    rw [givL_all, hF.out] at hI2 hI3
    have c3 := hI3.cell 0 rfl
    gi_wp2
    exact endM hK (v := .int .i64 F.2) (by simp [results, Try.f56, go_sem]) ⟨rfl, (grownBy_own (β := Unit) (B := w.heap.size) (Nat.le_refl _)).putObj (s := ()) _ hI1 (by omega) hK rfl, (rowG_own (β := Unit) 0 base g ns.length _ (fun _ => F.1)).putObj (s := ()) _ hI2 (Nat.zero_le _) hK rfl⟩
  case stop =>
    rintro D e pre W hD _ h
    exact h.elim
end Go.Proofs.Ytfefocgekmeahaa
