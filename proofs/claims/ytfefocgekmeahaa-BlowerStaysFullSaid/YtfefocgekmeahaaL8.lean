/- The walk of BlowerStaysFull. Conditions: lists that fit. -/
import Derived.Test.YtfefocgekmeahaaW32
namespace Go.Proofs.Ytfefocgekmeahaa
open Go.RowKit Go.Shelf

/-- nodes that were copied -/
def NdCp (W : World) (ns : List Nd) (a : Option Addr) (X : World) : Prop := 0 < ns.length → ∃ g, a = some ⟨g, 0, none⟩ ∧ W.heap.size ≤ g ∧ NdB X g ns.length (nd ns)
theorem NdCp.mono {W X X' : World} {ns : List Nd} {a : Option Addr} (h : NdCp W ns a X) (hb : Below X.heap.size X X') : NdCp W ns a X' := fun hn => by
  obtain ⟨g, h1, h2, h3⟩ := h hn
  exact ⟨g, h1, h2, h3.grown hb⟩
def cp8 (sup : Int) (ns : List Nd) (cv B : Nat) (av : Option Addr) (W : World) : Nat → Value → World → Prop
  | 0, v, _ => v = .pointer (some ⟨B, 0, none⟩)
  | 1, v, _ => v = .int .i64 sup
  | 2, v, _ => ∃ ad, v = .slice (some ad) 0 0
  | 3, v, _ => v = .pointer (some ⟨B, 1, none⟩)
  | 4, v, _ => v = .slice av ns.length cv
  | 5, v, X => ∃ a c, v = .slice a ns.length c ∧ NdCp W ns a X
  | 6, v, X => ∃ a c, v = .agg #[.int .i64 sup, .slice a ns.length c] ∧ NdCp W ns a X
  | 7, v, X => ∃ B', v = .pointer (some ⟨B', 0, none⟩) ∧ W.heap.size ≤ B' ∧ BoxC X B' 24 #[.int .i64 0, .slice none 0 0]
  | _, _, _ => True
theorem cp8_mono {sup : Int} {ns : List Nd} {cv B : Nat} {av : Option Addr} {W X X' : World} (hb : Below X.heap.size X X') : ∀ (i : Nat) (v : Value), cp8 sup ns cv B av W i v X → cp8 sup ns cv B av W i v X'
  | 0, _, h => h
  | 1, _, h => h
  | 2, _, h => h
  | 3, _, h => h
  | 4, _, h => h
  | 5, _, h => by
    obtain ⟨a, c, h1, h2⟩ := h
    exact ⟨a, c, h1, h2.mono hb⟩
  | 6, _, h => by
    obtain ⟨a, c, h1, h2⟩ := h
    exact ⟨a, c, h1, h2.mono hb⟩
  | 7, _, h => by
    obtain ⟨B, h1, h2, h3⟩ := h
    exact ⟨B, h1, h2, h3.grown hb⟩
  | _ + 8, _, _ => trivial
/-- behind the region: a plant in its box -/
def Cp8 (sup : Int) (ns : List Nd) (W : World) (F : (Nat → Value) → Array Value) : Exit → Act → World → Prop := fun e a X =>
  e = .normal ∧ ∃ (s : Nat → Value) (B : Nat) (a' : Option Addr) (c : Nat), a = { tmps := F s, defers := [] } ∧ s 7 = .pointer (some ⟨B, 0, none⟩) ∧ W.heap.size ≤ B ∧ BoxC X B 24 #[.int .i64 sup, .slice a' ns.length c] ∧ NdCp W ns a' X ∧ Below W.heap.size W X
theorem caS_zero {ns : List Nd} {dss : List (List Int)} (h : ∀ k, k < dss.length → deF ns (nths dss k) = 0) : ∀ r k : Nat, r = dss.length - k → caS ns dss k = 0
  | 0, k, hr => caS_end (by omega)
  | r + 1, k, hr => by
    rw [caS_next (by omega) (h k (by omega))]
    exact caS_zero h r (k + 1) (by omega)
theorem nths3 {dm : List Int} {k : Nat} (h : k < 3) : nths (List.replicate 3 dm) k = dm := by simp only [nths]; rw [List.getElem?_replicate, if_pos h]; rfl
theorem sumN_none {xs : List Int} (h : ∀ j, nth xs j = 0) (n : Nat) : sumN (nth xs) n = 0 := (sumN_congr n (fun k _ => h k)).trans (sumN_zero n)
/-- the levels so far -/
def halfN (ns : List Nd) (k i : Nat) : Nd := if i < k then { nd ns i with l := (nd ns i).c } else nd ns i

set_option maxRecDepth 100000 in
set_option maxHeartbeats 4000000 in
theorem cp_region (sup : Int) (av ax : Option Addr) (cv cx : Nat) (ns : List Nd) (dm : List Int) (w W : World) (hv : NdSl W (.slice av ns.length cv) ns) (hn : ns.length ≤ 1000) (bP : BoxC W w.heap.size 24 #[.int .i64 sup, .slice av ns.length cv]) :
    (Go.Code.region 3 #[{ dst := some 38, op := Go.Op.fieldAddr 24 (Go.Operand.tmp 2) 0, type := 0, pos := "law.go:381", after := #[], guard := none }, { dst := some 39, op := Go.Op.load 3 (Go.Operand.tmp 38), type := 3, pos := "law.go:381", after := #[{ on := 0, ground := Go.Ground.data }], guard := none }, { dst := some 40, op := Go.Op.buildSlice 22 0 #[], type := 22, pos := "law.go:381", after := #[], guard := none }, { dst := some 41, op := Go.Op.fieldAddr 24 (Go.Operand.tmp 2) 1, type := 0, pos := "law.go:381", after := #[], guard := none }, { dst := some 42, op := Go.Op.load 22 (Go.Operand.tmp 41), type := 22, pos := "law.go:381", after := #[{ on := 3, ground := Go.Ground.data }], guard := none }, { dst := some 43, op := Go.Op.call { callee := Go.Callee.builtin Go.Builtin.append, args := #[Go.Operand.tmp 40, Go.Operand.tmp 42], argTypes := #[22, 22] }, type := 22, pos := "law.go:381", after := #[{ on := 2, ground := Go.Ground.data }, { on := 4, ground := Go.Ground.data }], guard := none }, { dst := some 44, op := Go.Op.build 24 #[(0, Go.Operand.tmp 39), (1, Go.Operand.tmp 43)], type := 24, pos := "law.go:381", after := #[{ on := 1, ground := Go.Ground.data }, { on := 5, ground := Go.Ground.data }], guard := none }, { dst := some 5, op := Go.Op.alloc 24, type := 0, pos := "law.go:381", after := #[], guard := none }, { dst := none, op := Go.Op.store 24 (Go.Operand.tmp 5) (Go.Operand.tmp 44), type := 0, pos := "law.go:381", after := #[{ on := 7, ground := Go.Ground.data }, { on := 6, ground := Go.Ground.data }, { on := 5, ground := Go.Ground.chain }, { on := 0, ground := Go.Ground.phase }, { on := 1, ground := Go.Ground.phase }, { on := 2, ground := Go.Ground.phase }, { on := 3, ground := Go.Ground.phase }, { on := 4, ground := Go.Ground.phase }, { on := 5, ground := Go.Ground.phase }, { on := 6, ground := Go.Ground.phase }, { on := 7, ground := Go.Ground.phase }], guard := none }] true).wp Try.prog (Cp8 sup ns W (fun s => #[plV sup (.slice av ns.length cv), .slice ax dm.length cx, .pointer (some ⟨w.heap.size, 0, none⟩), undef, .bool false, s 7, undef, undef, undef, undef, undef, undef, undef, .bool true, .bool false, .bool false, .pointer (some ⟨w.heap.size, 1, none⟩), .slice av ns.length cv, .int .i64 (ns.length : Int), .bool false, .bool false, .bool false, .slice ax dm.length cx, .int .i64 (dm.length : Int), .bool false, .bool false, .bool false, .agg #[.int .i64 sup, .slice av ns.length cv], .int .i64 0, .bool false, .bool false, .bool false, .agg #[.int .i64 sup, .slice av ns.length cv], .slice ax dm.length cx, .int .i64 0, .bool false, .bool false, undef, s 0, s 1, s 2, s 3, s 4, s 5, s 6, undef, undef, undef, undef, undef, undef, undef, undef, undef, undef, undef, undef, undef, undef, undef, undef, undef, undef, undef, undef, undef, undef, undef, undef, undef, undef, undef, undef, undef, undef, undef, undef, undef, undef, undef, undef, undef, undef, undef, undef, undef, undef, undef, undef, undef, undef, undef, undef, undef, undef, undef, undef, undef, undef, undef, undef, undef, undef, undef, undef, undef, undef, undef, undef, undef, undef, undef, undef, undef, undef, undef, undef])) { tmps := #[plV sup (.slice av ns.length cv), .slice ax dm.length cx, .pointer (some ⟨w.heap.size, 0, none⟩), undef, .bool false, undef, undef, undef, undef, undef, undef, undef, undef, .bool true, .bool false, .bool false, .pointer (some ⟨w.heap.size, 1, none⟩), .slice av ns.length cv, .int .i64 (ns.length : Int), .bool false, .bool false, .bool false, .slice ax dm.length cx, .int .i64 (dm.length : Int), .bool false, .bool false, .bool false, .agg #[.int .i64 sup, .slice av ns.length cv], .int .i64 0, .bool false, .bool false, .bool false, .agg #[.int .i64 sup, .slice av ns.length cv], .slice ax dm.length cx, .int .i64 0, .bool false, .bool false, undef, undef, undef, undef, undef, undef, undef, undef, undef, undef, undef, undef, undef, undef, undef, undef, undef, undef, undef, undef, undef, undef, undef, undef, undef, undef, undef, undef, undef, undef, undef, undef, undef, undef, undef, undef, undef, undef, undef, undef, undef, undef, undef, undef, undef, undef, undef, undef, undef, undef, undef, undef, undef, undef, undef, undef, undef, undef, undef, undef, undef, undef, undef, undef, undef, undef, undef, undef, undef, undef, undef, undef, undef, undef, undef, undef, undef, undef, undef, undef], defers := [] } W := by
  refine region_makers 8 (fun s => #[plV sup (.slice av ns.length cv), .slice ax dm.length cx, .pointer (some ⟨w.heap.size, 0, none⟩), undef, .bool false, s 7, undef, undef, undef, undef, undef, undef, undef, .bool true, .bool false, .bool false, .pointer (some ⟨w.heap.size, 1, none⟩), .slice av ns.length cv, .int .i64 (ns.length : Int), .bool false, .bool false, .bool false, .slice ax dm.length cx, .int .i64 (dm.length : Int), .bool false, .bool false, .bool false, .agg #[.int .i64 sup, .slice av ns.length cv], .int .i64 0, .bool false, .bool false, .bool false, .agg #[.int .i64 sup, .slice av ns.length cv], .slice ax dm.length cx, .int .i64 0, .bool false, .bool false, undef, s 0, s 1, s 2, s 3, s 4, s 5, s 6, undef, undef, undef, undef, undef, undef, undef, undef, undef, undef, undef, undef, undef, undef, undef, undef, undef, undef, undef, undef, undef, undef, undef, undef, undef, undef, undef, undef, undef, undef, undef, undef, undef, undef, undef, undef, undef, undef, undef, undef, undef, undef, undef, undef, undef, undef, undef, undef, undef, undef, undef, undef, undef, undef, undef, undef, undef, undef, undef, undef, undef, undef, undef, undef, undef, undef, undef, undef, undef, undef, undef, undef]) [] (cp8 sup ns cv w.heap.size av W) (fun X => Below W.heap.size W X) (fun _ _ => none) (by kernel_rfl) (by kernel_rfl) ((Below.refl _ _).drew) ?step (fun j u X X' _ h hb => cp8_mono hb j u h) ?tail
  case step =>
    intro i o hi ho s X hb hd hne
    have c0 := (bP.grown hb).cell 0 rfl
    have c1 := (bP.grown hb).cell 1 rfl
    match i, hi with
    | 0, _ =>
      simp at ho
      subst ho
      refine wp_val (v := .pointer (some ⟨w.heap.size, 0, none⟩)) (X' := X) (by simp [execOp, go_sem]) ⟨_, by simp [Act.put, upd], hb, rfl, Below.refl _ _, fun b h => by simp at h⟩
    | 1, _ =>
      simp at ho
      subst ho
      simp at hd
      have e0 : s 0 = .pointer (some ⟨w.heap.size, 0, none⟩) := hd
      refine wp_val (v := .int .i64 sup) (X' := X) (by simp [execOp, go_sem, e0, c0]) ⟨_, by simp [Act.put, upd], hb, rfl, Below.refl _ _, fun b h => by simp at h⟩
    | 2, _ =>
      simp at ho
      subst ho
      have hx := (Below.refl X.heap.size X).alloc (Nat.le_refl _) (.cells #[] 42)
      refine wp_val (v := .slice (some ⟨X.heap.size, 0, none⟩) 0 0) (X' := X.alloc (.cells #[] 42)) (by simp [execOp, go_sem]) ⟨_, by simp [Act.put, upd], hb.trans (hx.mono hb.size), ⟨⟨X.heap.size, 0, none⟩, rfl⟩, hx, fun b h => by simp at h⟩
    | 3, _ =>
      simp at ho
      subst ho
      refine wp_val (v := .pointer (some ⟨w.heap.size, 1, none⟩)) (X' := X) (by simp [execOp, go_sem]) ⟨_, by simp [Act.put, upd], hb, rfl, Below.refl _ _, fun b h => by simp at h⟩
    | 4, _ =>
      simp at ho
      subst ho
      simp at hd
      have e0 : s 3 = .pointer (some ⟨w.heap.size, 1, none⟩) := hd
      refine wp_val (v := .slice av ns.length cv) (X' := X) (by simp [execOp, go_sem, e0, c1]) ⟨_, by simp [Act.put, upd], hb, rfl, Below.refl _ _, fun b h => by simp at h⟩
    | 5, _ =>
      simp at ho
      subst ho
      simp at hd
      obtain ⟨⟨ad, e0⟩, e1⟩ := hd
      have e1' : s 4 = .slice av ns.length cv := e1
      have hE0 : ({ tmps := #[plV sup (.slice av ns.length cv), .slice ax dm.length cx, .pointer (some ⟨w.heap.size, 0, none⟩), undef, .bool false, s 7, undef, undef, undef, undef, undef, undef, undef, .bool true, .bool false, .bool false, .pointer (some ⟨w.heap.size, 1, none⟩), .slice av ns.length cv, .int .i64 (ns.length : Int), .bool false, .bool false, .bool false, .slice ax dm.length cx, .int .i64 (dm.length : Int), .bool false, .bool false, .bool false, .agg #[.int .i64 sup, .slice av ns.length cv], .int .i64 0, .bool false, .bool false, .bool false, .agg #[.int .i64 sup, .slice av ns.length cv], .slice ax dm.length cx, .int .i64 0, .bool false, .bool false, undef, s 0, s 1, s 2, s 3, s 4, s 5, s 6, undef, undef, undef, undef, undef, undef, undef, undef, undef, undef, undef, undef, undef, undef, undef, undef, undef, undef, undef, undef, undef, undef, undef, undef, undef, undef, undef, undef, undef, undef, undef, undef, undef, undef, undef, undef, undef, undef, undef, undef, undef, undef, undef, undef, undef, undef, undef, undef, undef, undef, undef, undef, undef, undef, undef, undef, undef, undef, undef, undef, undef, undef, undef, undef, undef, undef, undef, undef, undef, undef, undef, undef], defers := [] } : Act).eval (.tmp 40) = .slice (some ad) 0 0 := by simpa [go_sem] using e0
      have hE1 : ({ tmps := #[plV sup (.slice av ns.length cv), .slice ax dm.length cx, .pointer (some ⟨w.heap.size, 0, none⟩), undef, .bool false, s 7, undef, undef, undef, undef, undef, undef, undef, .bool true, .bool false, .bool false, .pointer (some ⟨w.heap.size, 1, none⟩), .slice av ns.length cv, .int .i64 (ns.length : Int), .bool false, .bool false, .bool false, .slice ax dm.length cx, .int .i64 (dm.length : Int), .bool false, .bool false, .bool false, .agg #[.int .i64 sup, .slice av ns.length cv], .int .i64 0, .bool false, .bool false, .bool false, .agg #[.int .i64 sup, .slice av ns.length cv], .slice ax dm.length cx, .int .i64 0, .bool false, .bool false, undef, s 0, s 1, s 2, s 3, s 4, s 5, s 6, undef, undef, undef, undef, undef, undef, undef, undef, undef, undef, undef, undef, undef, undef, undef, undef, undef, undef, undef, undef, undef, undef, undef, undef, undef, undef, undef, undef, undef, undef, undef, undef, undef, undef, undef, undef, undef, undef, undef, undef, undef, undef, undef, undef, undef, undef, undef, undef, undef, undef, undef, undef, undef, undef, undef, undef, undef, undef, undef, undef, undef, undef, undef, undef, undef, undef, undef, undef, undef, undef, undef, undef], defers := [] } : Act).eval (.tmp 42) = .slice av ns.length cv := by simpa [go_sem] using e1'
      obtain ⟨a, c, X', hrun, h3, h4⟩ := run_copy22 ad av cv ns X (hv.mono hb) hn
      have hbs := hb.size
      refine wp_val (v := .slice a ns.length c) (X' := X') (by unfold execOp; simp only [resolve, invoke, builtin, Sem.run_bind, Sem.run_pure, Result.andThen_ok, List.map_toArray, List.map_cons, List.map_nil, hE0, hE1, hrun]) ⟨_, by simp [Act.put, upd], hb.trans (h3.mono hb.size), ⟨a, c, rfl, fun hn0 => by obtain ⟨g, k1, k2, k3⟩ := h4 hn0; exact ⟨g, k1, by omega, k3⟩⟩, h3, fun b h => by simp at h⟩
    | 6, _ =>
      simp at ho
      subst ho
      simp at hd
      obtain ⟨e1, ⟨a, c, e5, h5⟩⟩ := hd
      have e1' : s 1 = .int .i64 sup := e1
      refine wp_val (v := .agg #[.int .i64 sup, .slice a ns.length c]) (X' := X) (by simp [execOp, go_sem, e1', e5]) ⟨_, by simp [Act.put, upd], hb, ⟨a, c, rfl, h5⟩, Below.refl _ _, fun b h => by simp at h⟩
    | 7, _ =>
      simp at ho
      subst ho
      have hx := (Below.refl X.heap.size X).alloc (Nat.le_refl _) (.cells #[.int .i64 0, .slice none 0 0] 24)
      refine wp_val (v := .pointer (some ⟨X.heap.size, 0, none⟩)) (X' := X.alloc (.cells #[.int .i64 0, .slice none 0 0] 24)) (by simp [execOp, go_sem]) ⟨_, by simp [Act.put, upd], hb.trans (hx.mono hb.size), ⟨X.heap.size, rfl, hb.size, BoxC.new X 24 _⟩, hx, fun b h => by simp at h⟩
  case tail =>
    intro o ho s X hb hS hlt hne
    simp at ho
    subst ho
    obtain ⟨a, c, e6, h6⟩ := hS 6 (by omega)
    obtain ⟨B, e7, hB, bB⟩ := hS 7 (by omega)
    have d0 := bB.cell 0 rfl
    have d1 := bB.cell 1 rfl
    have f0 := bB.frozen 0
    have f1 := bB.frozen 1
    have bF := (bB.set 0 (.int .i64 sup)).set 1 (.slice a ns.length c)
    have hne2 : ∀ g, NdB X g ns.length (nd ns) → g ≠ B := fun g hg e => by
      obtain ⟨cs, h1, _⟩ := hg
      subst e
      have h3 : X.heap[g]? = some (.cells cs 42) := h1
      have h4 : X.heap[g]? = some (.cells #[.int .i64 0, .slice none 0 0] 24) := bB
      rw [h3] at h4
      cases h4
    refine wp_skip (X' := (X.setCell ⟨B, 0, none⟩ (.int .i64 sup)).setCell ⟨B, 1, none⟩ (.slice a ns.length c)) (by simp [execOp, go_sem, e7, e6, d0, d1, f0, f1])
      ⟨rfl, s, B, a, c, by simp [Act.put], e7, hB, bF, fun hn0 => by obtain ⟨g, k1, k2, k3⟩ := h6 hn0; exact ⟨g, k1, k2, (k3.other (p := ⟨B, 0, none⟩) (hne2 g k3) _).other (p := ⟨B, 1, none⟩) (hne2 g k3) _⟩, (hb.setCell (p := ⟨B, 0, none⟩) hB _).setCell (p := ⟨B, 1, none⟩) hB _⟩

set_option maxRecDepth 100000 in
set_option maxHeartbeats 8000000 in
theorem law8_any (sup : Int) (v : Value) (ns : List Nd) (x : Value) (dm : List Int) (w : World) (hv : NdSl w v ns) (hx : NumSl .i64 w x dm) (hm : ns.length ≤ 9223372036854775807) (hm3 : dm.length ≤ 9223372036854775807) :
    Calls Try.prog 8 #[plV sup v, x] w fun e w' => e = .returned (.bool true) ∧ Below w.heap.size w w' := by
  have hB := (Below.refl w.heap.size w).alloc (Nat.le_refl _) (.cells #[.int .i64 sup, v] 24)
  have bP := BoxC.new w 24 #[.int .i64 sup, v]
  have hck := fun W (hb : Below w.heap.size w W) => lcheck_any sup v ns W (hv.mono hb) hm
  have hdd := fun (h : dm.length ≤ 32) W (hb : Below w.heap.size w W) => demanded_any sup v ns x dm W (hv.mono hb) (hx.mono hb) (by omega)
  have hv0 := hv
  have hx0 := hx
  obtain ⟨d, hd⟩ : ∃ d, ckF sup ns = d := ⟨_, rfl⟩
  rw [hd] at hck
  obtain ⟨av, cv, rfl⟩ := hv.len
  obtain ⟨ax, cx, rfl⟩ := hx.len
  clear hv hx
  replace hd := Lib.hid hd
  replace hck := Lib.hid hck
  replace hdd := Lib.hid hdd
  go_enter Try.func8, Try.ntmps8
  go_wp2_with fail
  refine (known_any _).mono ?_
  rintro e w1 ⟨rfl, hb1⟩
  replace bP := bP.grown hb1
  have c0 := bP.cell 0 rfl
  have c1 := bP.cell 1 rfl
  replace hB := hB.trans (hb1.mono hB.size)
  clear hb1
  by_cases hA : 32 < ns.length
  case pos =>
    have hA2 : (32 : Int) < (ns.length : Int) := by omega
    have hA3 : decide ((32 : Int) < (ns.length : Int)) = true := decide_eq_true hA2
    clear hdd hck hd
    go_wp2_with fail
    refine (known_any _).mono ?_
    rintro e w3 ⟨rfl, hb3⟩
    go_wp2
    go_ret
    exact ⟨rfl, hB.trans (hb3.mono hB.size)⟩
  have hA2 : ¬ (32 : Int) < (ns.length : Int) := by omega
  have hA3 : decide ((32 : Int) < (ns.length : Int)) = false := decide_eq_false hA2
  by_cases hE : 32 < dm.length
  case pos =>
    have hE2 : (32 : Int) < (dm.length : Int) := by omega
    have hE3 : decide ((32 : Int) < (dm.length : Int)) = true := decide_eq_true hE2
    clear hdd hck hd
    go_wp2_with fail
    refine (known_any _).mono ?_
    rintro e w3 ⟨rfl, hb3⟩
    go_wp2
    go_ret
    exact ⟨rfl, hB.trans (hb3.mono hB.size)⟩
  have hE2 : ¬ (32 : Int) < (dm.length : Int) := by omega
  have hE3 : decide ((32 : Int) < (dm.length : Int)) = false := decide_eq_false hE2
  have hck1 := Lib.hid (hck.out w1 hB)
  clear hck
  go_wp2_with fail
  refine hck1.out.mono ?_
  rintro e w2 ⟨rfl, hb2⟩
  replace bP := bP.grown hb2
  replace c0 := bP.cell 0 rfl
  replace c1 := bP.cell 1 rfl
  replace hB := hB.trans (hb2.mono hB.size)
  clear hck1 hb2
  by_cases h0 : d = 0
  case neg =>
    obtain ⟨g1, g2⟩ := neq_of h0
    clear hdd hd h0
    go_wp2_with fail
    refine (known_any _).mono ?_
    rintro e w4 ⟨rfl, hb4⟩
    go_wp2
    go_ret
    exact ⟨rfl, hB.trans (hb4.mono hB.size)⟩
  subst h0
  obtain ⟨⟨hs0, hs1⟩, hp⟩ := plOk_of hd.out
  have hdl := dmOk_of (ns := ns) (d := dm)
  have hdf := deF_full (ns := ns) (d := dm)
  have hdd1 := hdd.out (by omega) w2 hB
  generalize deF ns dm = e2 at hdd1 hdl hdf
  replace hdl := Lib.hid hdl
  replace hdf := Lib.hid hdf
  replace hdd1 := Lib.hid hdd1
  clear hdd hd
  go_wp2_with fail
  refine hdd1.out.mono ?_
  rintro e w3 ⟨rfl, hb3⟩
  replace bP := bP.grown hb3
  replace c0 := bP.cell 0 rfl
  replace c1 := bP.cell 1 rfl
  replace hB := hB.trans (hb3.mono hB.size)
  clear hdd1 hb3
  by_cases h0 : e2 = 0
  case neg =>
    obtain ⟨g1, g2⟩ := neq_of h0
    clear hdl hdf h0
    go_wp2_with fail
    refine (known_any _).mono ?_
    rintro e w4 ⟨rfl, hb4⟩
    go_wp2
    go_ret
    exact ⟨rfl, hB.trans (hb4.mono hB.size)⟩
  subst h0
  have hdm := hdl.out rfl
  go_wp2_with fail
  have hn30 := hp.len
  refine Code.wp_mono ?post (cp_region sup av ax cv cx ns dm w w3 (hv0.mono hB) (by omega) bP)
  rintro e a X ⟨rfl, s, Bf, a', c', rfl, h8, hBf, bF, hcp, hX⟩
  dsimp only
  rw [h8]
  have hw3 := hB.size
  have hB3 := hB.trans (hX.mono hB.size)
  obtain ⟨g, hg⟩ : ∃ g, 0 < ns.length → a' = some ⟨g, 0, none⟩ ∧ w3.heap.size ≤ g ∧ NdB X g ns.length (nd ns) := by
    rcases Nat.eq_zero_or_pos ns.length with h0 | h0
    · exact ⟨0, fun h => by omega⟩
    · obtain ⟨g, h1⟩ := hcp h0
      exact ⟨g, fun _ => h1⟩
  have hX0 := hX.size
  clear hcp h8 c0 c1 bP hX hB hdl
  have c1 := bF.cell 1 rfl
  go_wp2
  clear c1
  go_loopw [48] (fun q W => ∃ k : Nat, k ≤ ns.length ∧ q = .int .i64 k ∧ BoxC W Bf 24 #[.int .i64 sup, .slice a' ns.length c'] ∧ (0 < ns.length → NdB W g ns.length (halfN ns k)) ∧ Below w.heap.size w W) (fun q _ => ns.length - (intOf q).toNat)
  case atStart => exact ⟨0, Nat.zero_le _, rfl, bF, fun h => (hg h).2.2.congr (fun i _ => by unfold halfN; rw [if_neg (by omega)]), hB3⟩
  case round =>
    clear bF hB3
    obtain ⟨k, hk, rfl, bF, hN, hB⟩ := hrel
    by_cases hlt : k < ns.length
    · have hn0 : 0 < ns.length := by omega
      have hki : (k : Int) < (ns.length : Int) := by omega
      obtain ⟨rfl, hg2, -⟩ := hg hn0
      have hN1 := hN hn0
      obtain ⟨n1, n2, n3, n4⟩ := hN1.cell hlt
      have hfk : halfN ns k k = nd ns k := by unfold halfN; rw [if_neg (by omega)]
      rw [hfk] at n3 n4
      have hset := hN1.set hlt (nd ns k).c
      rw [hfk] at hset
      have hset2 := hset.congr (f' := halfN ns (k + 1)) (fun i hi => by
        simp only [halfN]
        by_cases h1 : i = k
        · subst h1; rw [if_pos rfl, if_pos (by omega)]
        · rw [if_neg h1]
          by_cases h2 : i < k
          · rw [if_pos h2, if_pos (by omega)]
          · rw [if_neg h2, if_neg (by omega)])
      have c1 := bF.cell 1 rfl
      have ff := hN1.frozen (k * 4 + 3)
      have bF2 := bF.other (p := ⟨g, k * 4 + 3, none⟩) (by
        intro e
        obtain ⟨cs, h1, _⟩ := hN1
        have e' : Bf = g := e
        subst e'
        have h3 : wr.heap[Bf]? = some (.cells cs 42) := h1
        have h4 : wr.heap[Bf]? = some (.cells #[.int .i64 sup, .slice (some ⟨Bf, 0, none⟩) ns.length c'] 24) := bF
        rw [h3] at h4
        cases h4) (.int .i64 (nd ns k).c)
      have hB2 := hB.setCell (p := ⟨g, k * 4 + 3, none⟩) (by show w.heap.size ≤ g; omega) (.int .i64 (nd ns k).c)
      clear hN hN1 hset hfk
      generalize (nd ns k).c = z at n3 hset2 bF2 hB2
      generalize (nd ns k).l = z2 at n4
      go_wp2_with fail
      go_still_tail 11, (by kernel_rfl)
      change wpList _ _ _ _ _ wr.drew
      have d4 : wr.drew.cell? ⟨g, k * 4 + 3, none⟩ = some (.int .i64 z2) := n4
      have d5 : wr.drew.frozen? ⟨g, k * 4 + 3, none⟩ = false := ff
      clear n1 n2 n3 n4 c1 ff
      go_wp2
      have bF3 : BoxC (wr.drew.setCell ⟨g, k * 4 + 3, none⟩ (.int .i64 z)) Bf 24 #[.int .i64 sup, .slice (some ⟨g, 0, none⟩) ns.length c'] := bF2
      have hset3 : NdB (wr.drew.setCell ⟨g, k * 4 + 3, none⟩ (.int .i64 z)) g ns.length (halfN ns (k + 1)) := hset2
      have hB4 : Below w.heap.size w (wr.drew.setCell ⟨g, k * 4 + 3, none⟩ (.int .i64 z)) := hB.drew.setCell (p := ⟨g, k * 4 + 3, none⟩) (by show w.heap.size ≤ g; omega) _
      go_roundw
      case rel => exact ⟨k + 1, by omega, by go_num, bF3, fun _ => hset3, hB4⟩
      case measure => simp [intOf]; omega
    · obtain rfl : k = ns.length := by omega
      have hpf := fullN_ok hp
      have hdm2 : DmOk (fullN ns) dm := ⟨by rw [fullN_len]; exact hdm.len, fun k hk => hdm.r k (by rw [fullN_len] at hk; exact hk)⟩
      have hNS : NdSl wr (.slice a' ns.length c') (fullN ns) := by
        rcases Nat.eq_zero_or_pos ns.length with h0 | h0
        · have : fullN ns = [] := List.eq_nil_of_length_eq_zero (by rw [fullN_len]; exact h0)
          rw [this, h0]
          exact .inl ⟨⟨_, _, rfl⟩, rfl⟩
        · obtain ⟨rfl, _, _⟩ := hg h0
          have h1 := (hN h0).congr (f' := nd (fullN ns)) (fun i hi => by rw [nd_fullN hi]; unfold halfN; rw [if_pos hi])
          rw [← fullN_len ns] at h1 ⊢
          exact h1.sl
      clear hN hg
      have hsd : sdF sup (fullN ns) dm = 0 := by unfold sdF; rw [if_neg (by simp [ckF_of hpf hs0 hs1]), deF_full, ← deF_full]; exact hdf.out
      have hbn := Bottleneck_any sup _ (fullN ns) _ dm wr hNS (hx0.mono hB) (by rw [fullN_len]; omega) (by omega)
      unfold BnPost at hbn
      rw [hsd] at hbn
      have hlen3 : (List.replicate 3 dm).length = 3 := by simp
      have hcs : caF sup (fullN ns) (List.replicate 3 dm) = 0 := by
        rw [caF_of (ckF_of hpf hs0 hs1) (by simp)]
        exact caS_zero (fun k hk => by rw [hlen3] at hk; rw [nths3 hk]; exact hdf.out) _ 0 rfl
      have hrn := fun W u (h : NdSl W (.slice a' ns.length c') (fullN ns)) (h2 : SlSl W u (List.replicate 3 dm)) => Run_any sup _ (fullN ns) u (List.replicate 3 dm) W h h2 ⟨by rw [fullN_len]; omega, by simp, fun k => by
        rcases Nat.lt_or_ge k 3 with h | h
        · rw [nths3 h]; omega
        · simp only [nths]; rw [List.getElem?_replicate, if_neg (by omega)]; simp⟩
      unfold RunPost at hrn
      rw [hcs, hlen3] at hrn
      have hdss := (caF_ok hcs).2.2.2
      have hfr := fun hb => full_run (dm := dm) hpf hs0 (fun j hj => by rw [fullN_len] at hj; rw [nd_fullN hj]) hdss (fun k hk => nths3 (by rw [hlen3] at hk; exact hk)) hb
      have hfl := fun k (hk : k < 3) => runT_len hpf (sup := sup) (by omega) hs1 hdss k (by rw [hlen3]; exact hk)
      generalize btF (fullN ns) sup dm 1000 = F at hbn hfr
      obtain ⟨f1, f2⟩ := F
      simp only at hbn hfr
      have hsm := fun W (h : NdSl W (.slice a' ns.length c') (fullN ns)) => startM_any sup _ (fullN ns) W h (by rw [fullN_len]; omega)
      rw [hlen3] at hfr
      replace hbn := Lib.hid hbn
      replace hrn := Lib.hid hrn
      replace hfr := Lib.hid hfr
      replace hfl := Lib.hid hfl
      replace hsm := Lib.hid hsm
      have c0 := bF.cell 0 rfl
      have c1 := bF.cell 1 rfl
      clear hsd hlen3 hcs hdss hdm2
      go_wp2_with fail
      refine hbn.out.mono ?_
      rintro e w4 ⟨hb4, -, he⟩
      obtain rfl := he (by simp)
      replace bF := bF.grown hb4
      replace c0 := bF.cell 0 rfl
      replace c1 := bF.cell 1 rfl
      replace hB := hB.trans (hb4.mono hB.size)
      replace hNS := hNS.mono hb4
      clear hbn he hb4
      cases f2
      case true =>
        clear hrn hfr hfl hsm
        go_wp2
        go_ret
        exact ⟨rfl, hB⟩
      replace hfr := hfr.out rfl
      replace hfr := Lib.hid hfr
      have hx4 := (Below.refl w4.heap.size w4).alloc (Nat.le_refl _) (.cells #[.slice ax dm.length cx, .slice ax dm.length cx, .slice ax dm.length cx] 39)
      have bD := BoxC.new w4 39 #[.slice ax dm.length cx, .slice ax dm.length cx, .slice ax dm.length cx]
      replace bF := bF.grown hx4
      replace hB := hB.trans (hx4.mono hB.size)
      replace hNS := hNS.mono hx4
      have hxx := hx0.mono hB
      have hr1 := hrn.out _ (.slice (some ⟨w4.heap.size, 0, none⟩) 3 3) hNS (.inr ⟨w4.heap.size, 0, 3, by simp, bD.lt, fun i hi => by
        have hi3 : i < 3 := by simpa using hi
        refine ⟨.slice ax dm.length cx, ?_, by rw [nths3 hi3]; exact hxx⟩
        match i, hi3 with
        | 0, _ => exact bD.cell 0 rfl
        | 1, _ => exact bD.cell 1 rfl
        | 2, _ => exact bD.cell 2 rfl⟩)
      replace hr1 := Lib.hid hr1
      clear hrn hx4 bD hxx
      go_wp2_with fail
      refine hr1.out.mono ?_
      rintro e w5 ⟨y, rfl, hb5, hS, -⟩
      replace hS := hS (by simp)
      obtain ⟨asl, csl, rfl⟩ := hS.len
      replace bF := bF.grown hb5
      replace hB := hB.trans (hb5.mono hB.size)
      replace hNS := hNS.mono hb5
      clear hr1 hb5 c0 c1
      go_wp2
      go_loopw [12] (fun q W => ∃ k : Nat, k ≤ 3 ∧ q = .int .i64 k ∧ Below w5.heap.size w5 W) (fun q _ => 3 - (intOf q).toNat)
      case atStart => exact ⟨0, by omega, rfl, Below.refl _ _⟩
      case round =>
        obtain ⟨k, hk, rfl, hY⟩ := hrel
        replace hS := hS.mono hY
        replace bF := bF.grown hY
        replace hNS := hNS.mono hY
        by_cases hlt3 : k < 3
        · have hkd : (k : Int) < 3 := by omega
          have hdr := (Below.refl wr.heap.size wr).drew
          obtain ⟨bs, os, cps, hes, hbs, hcs⟩ := hS.at hlt3
          cases hes
          obtain ⟨s1, s2, s3, cs1, cs2, cs3, hSk⟩ := hcs k hlt3
          obtain ⟨hlv, hlk⟩ := hfr.out (k + 1) (by omega)
          obtain ⟨m1, m2, m3⟩ := hfl.out k hlt3
          replace hlk := hlk (by omega)
          generalize runT (fullN ns) sup (List.replicate 3 dm) (k + 1) = A at hSk hlv hlk m1 m2 m3
          obtain ⟨b1, r1, rfl⟩ := hSk.lv.lenV m1
          obtain ⟨b3, r3, rfl⟩ := hSk.lk.lenV m3
          have hsum := fun W (hb : Below wr.heap.size wr W) => sum_any _ A.lk W (hSk.lk.mono hb) (by rw [m3, fullN_len]; omega) (fun k => by rw [hlk]; omega)
          rw [sumN_none hlk] at hsum
          have hll : A.lv.length ≤ 4611686018427387904 := by rw [m1, fullN_len]; omega
          clear hcs m1 m2 m3
          have hU : ∀ X, Below wr.heap.size wr X → X.cell? ⟨bs, os + k * 3, none⟩ = some (.slice b1 (fullN ns).length r1) ∧ X.cell? ⟨bs, os + k * 3 + 2, none⟩ = some (.slice b3 (fullN ns).length r3) ∧
              X.cell? ⟨Bf, 0, none⟩ = some (.int .i64 sup) ∧ X.cell? ⟨Bf, 1, none⟩ = some (.slice a' ns.length c') := fun X hb =>
            ⟨(hb.cell (p := ⟨bs, os + k * 3, none⟩) hbs).trans cs1, (hb.cell (p := ⟨bs, os + k * 3 + 2, none⟩) hbs).trans cs3, (bF.grown hb).cell 0 rfl, (bF.grown hb).cell 1 rfl⟩
          have hu0 := hU _ hdr
          have hc1 := Lib.hid (hsm.out wr.drew (hNS.mono hdr))
          replace hU := Lib.hid hU
          replace hsum := Lib.hid hsum
          replace hlv := Lib.hid hlv
          replace hlk := Lib.hid hlk
          clear cs1 cs2 cs3
          go_wp2_with fail
          go_region_held3 (fun X => X.cell? ⟨bs, os + k * 3, none⟩ = some (.slice b1 (fullN ns).length r1) ∧ X.cell? ⟨bs, os + k * 3 + 2, none⟩ = some (.slice b3 (fullN ns).length r3) ∧
              X.cell? ⟨Bf, 0, none⟩ = some (.int .i64 sup) ∧ X.cell? ⟨Bf, 1, none⟩ = some (.slice a' ns.length c')) (first | exact hu2 | exact hu1 | exact hu0)
            (first | (go_at_call 20; refine (hsum.out _ hxa).mono ?_; rintro e wb ⟨rfl, rfl⟩)
                   | (go_at_call 29; refine hc2.out.mono ?_; rintro e wa ⟨rfl, hba⟩; have hxa := hx1.trans (hba.mono hx1.size); have hu2 := hU.out _ hxa)
                   | (go_at_call 19; refine hc1.out.mono ?_; rintro e wq ⟨y, rfl, hy, hbq⟩; have hx1 := hdr.trans (hbq.mono hdr.size); have hu1 := hU.out _ hx1; have hc2 := Same_any _ _ _ _ wq (hSk.lv.mono hx1) hy hll; rw [hlv.out, sameL_refl] at hc2; replace hc2 := Lib.hid hc2; obtain ⟨ay, cy, rfl⟩ := hy.lenV (lvs_len _)))
          go_wp2
          go_roundw
          case rel => exact ⟨k + 1, by omega, by go_num, hY.trans (hxa.mono hY.size)⟩
          case measure => simp [intOf]; omega
        · obtain rfl : k = 3 := by omega
          go_wp2
          go_ret
          exact ⟨rfl, hB.trans (hY.mono hB.size)⟩
end Go.Proofs.Ytfefocgekmeahaa
