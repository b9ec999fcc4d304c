/- The contract of the iterator over the states behind the steps. Conditions: a right plant and right demands. -/
import Derived.Test.YtfefocgekmeahaaW9
import Derived.Test.YtfefocgekmeahaaTold
namespace Go.Proofs.Ytfefocgekmeahaa
open Go.RowKit Go.Shelf
attribute [local go_sem] Oper.semAt_some

/-- the k-th list -/
def nths (xss : List (List Int)) (k : Nat) : List Int := xss[k]?.getD []
/-- v reads in w as the lists xss of numbers -/
def SlSl (w : World) (v : Value) (xss : List (List Int)) : Prop :=
  ((∃ a cap, v = .slice a 0 cap) ∧ xss = []) ∨ ∃ b off cap, v = .slice (some ⟨b, off, none⟩) xss.length cap ∧ b < w.heap.size ∧
    ∀ i, i < xss.length → ∃ u, w.cell? ⟨b, off + i, none⟩ = some u ∧ NumSl .i64 w u (nths xss i)
section
variable {w w' : World} {v : Value} {xss : List (List Int)}
theorem SlSl.len (h : SlSl w v xss) : ∃ a cap, v = .slice a xss.length cap := by
  rcases h with ⟨⟨a, cap, rfl⟩, rfl⟩ | ⟨b, off, cap, rfl, _, _⟩
  · exact ⟨a, cap, rfl⟩
  · exact ⟨_, cap, rfl⟩
theorem SlSl.mono (h : SlSl w v xss) (hb : Below w.heap.size w w') : SlSl w' v xss := by
  rcases h with h | ⟨b, off, cap, rfl, hl, hc⟩
  · exact .inl h
  · refine .inr ⟨b, off, cap, rfl, Nat.lt_of_lt_of_le hl hb.size, fun i hi => ?_⟩
    obtain ⟨u, h1, h2⟩ := hc i hi
    exact ⟨u, (hb.cell (p := ⟨b, off + i, none⟩) hl).trans h1, h2.mono hb⟩
theorem SlSl.at (h : SlSl w v xss) {k : Nat} (hk : k < xss.length) : ∃ b off cap, v = .slice (some ⟨b, off, none⟩) xss.length cap ∧ b < w.heap.size ∧
    ∀ i, i < xss.length → ∃ u, w.cell? ⟨b, off + i, none⟩ = some u ∧ NumSl .i64 w u (nths xss i) := by
  rcases h with ⟨_, rfl⟩ | h
  · simp at hk
  · exact h
end
theorem NumSl.keeps {K : IntKind} {m : Nat → Prop} {B : Option Nat} {w w' : World} {v : Value} {xs : List Int} (h : NumSl K w v xs) (hk : Keeps m B w w') (hn : ∀ b, v.ownBlock = some b → 0 < xs.length → ¬ fpB m B w b) : NumSl K w' v xs := by
  rcases h with h | ⟨b, off, cap, rfl, hc⟩
  · exact .inl h
  · exact .inr ⟨b, off, cap, rfl, fun i hi => hk.cell (p := ⟨b, off + i, none⟩) (hn b rfl (by omega)) (hc i hi)⟩

/-- the state behind k steps -/
def runT (ns : List Nd) (sup : Int) (dss : List (List Int)) : Nat → St
  | 0 => ⟨lvs ns, zeros ns.length, zeros ns.length⟩
  | k + 1 => stepF ns sup (runT ns sup dss k).lv (nths dss k)
def DssOk (ns : List Nd) (dss : List (List Int)) : Prop := ∀ k, k < dss.length → DmOk ns (nths dss k)
theorem runT_lv {ns : List Nd} {sup : Int} {dss : List (List Int)} (hp : PlOk ns) (hs : 0 ≤ sup) (hd : DssOk ns dss) : ∀ k, k ≤ dss.length → LvOk ns (runT ns sup dss k).lv
  | 0, _ => lvOk_lvs hp
  | k + 1, h => (stepOk hp (runT_lv hp hs hd k (by omega)) (hd k (by omega)) hs).lvOk hp (runT_lv hp hs hd k (by omega)) (hd k (by omega))

set_option maxHeartbeats 400000 in
theorem states_any (sup : Int) (v u : Value) (a a2 : Option Addr) (len cap len2 cap2 : Nat) (hv : v = .slice a len cap) (hu : u = .slice a2 len2 cap2) (w : World) :
    Calls Try.prog 41 #[plV sup v, u] w fun e w' => e = .returned (.func (.func 50) #[] #[.pointer (some ⟨w.heap.size, 0, none⟩), .pointer (some ⟨w.heap.size + 1, 0, none⟩)]) ∧
      (w.alloc (.cells #[.int .i64 sup, v] 24)).alloc (.cells #[u] 25) = w' := by
  subst hv
  subst hu
  have hmf : ∀ (fn : Fn) (first cap : Array Value) (w : World), (Instr.makeFunc fn first cap).run Try.prog w = .ok (.func fn first cap) w := fun _ _ _ _ => rfl
  go_enter Try.func41, Try.ntmps41
  go_wp2
  go_ret
  exact ⟨rfl, rfl⟩

/-- what comes at a step: its number, and the three slices of the state behind it -/
structure Yd where
  i : Nat
  a1 : Option Addr
  c1 : Nat
  a2 : Option Addr
  c2 : Nat
  a3 : Option Addr
  c3 : Nat
abbrev ydE (n : Nat) (x : Yd) : Array Value := #[.int .i64 x.i, stV (.slice x.a1 n x.c1) (.slice x.a2 n x.c2) (.slice x.a3 n x.c3)]
/-- the rows of a slice are apart from what the loop's body writes, and from the iterator's own block -/
def Apart (m : Nat → Prop) (B : Option Nat) (Q n : Nat) (v : Value) (W : World) : Prop := ∀ b, 0 < n → v.ownBlock = some b → ¬ fpB m B W b ∧ b < W.heap.size ∧ b ≠ Q
def ydCn (ns : List Nd) (sup : Int) (dss : List (List Int)) (m : Nat → Prop) (B : Option Nat) (Q : Nat) (pre : List Yd) (x : Yd) (W : World) : Prop :=
  Q < W.heap.size ∧ x.i = pre.length ∧ StSl W (.slice x.a1 ns.length x.c1) (.slice x.a2 ns.length x.c2) (.slice x.a3 ns.length x.c3) (runT ns sup dss (x.i + 1)) ∧
    Apart m B Q ns.length (.slice x.a1 ns.length x.c1) W ∧ Apart m B Q ns.length (.slice x.a2 ns.length x.c2) W ∧ Apart m B Q ns.length (.slice x.a3 ns.length x.c3) W
theorem fpB_cells {m : Nat → Prop} {B : Option Nat} {W W' : World} (h : ∀ p, W'.cell? p = W.cell? p) (k : Nat) : fpB m B W' k ↔ fpB m B W k := fpB_same (fun _ _ => h _) k
theorem NumSl.cells {K : IntKind} {W W' : World} {v : Value} {xs : List Int} (h : NumSl K W v xs) (hc : ∀ p, W'.cell? p = W.cell? p) : NumSl K W' v xs := by
  rcases h with h | ⟨b, off, cap, rfl, h1⟩
  · exact .inl h
  · exact .inr ⟨b, off, cap, rfl, fun i hi => (hc _).trans (h1 i hi)⟩
theorem ydCn_put {ns : List Nd} {sup : Int} {dss : List (List Int)} {m : Nat → Prop} {B : Option Nat} (Q : Nat) (pre : List Yd) (x : Yd) (W : World) (l : Nat) (r r' : Loop) (h : ydCn ns sup dss m B Q pre x W) (hl : W.heap[l]? = some (.loop r)) :
    ydCn ns sup dss m B Q pre x (W.putObj l (.loop r')) := by
  have hc := fun p => cell_putLoop (r' := r') hl p
  have hsz : (W.putObj l (.loop r')).heap.size = W.heap.size := by simp [World.putObj]
  obtain ⟨h0, h1, ⟨q1, q2, q3⟩, h3, h4, h5⟩ := h
  have ap : ∀ v, Apart m B Q ns.length v W → Apart m B Q ns.length v (W.putObj l (.loop r')) := fun v h b hn hb => by
    obtain ⟨z1, z2, z3⟩ := h b hn hb
    exact ⟨fun hf => z1 ((fpB_cells hc b).1 hf), by omega, z3⟩
  exact ⟨by omega, h1, ⟨q1.cells hc, q2.cells hc, q3.cells hc⟩, ap _ h3, ap _ h4, ap _ h5⟩
theorem Apart.below {m : Nat → Prop} {B : Option Nat} {Q n : Nat} {v : Value} {W W' : World} (h : Apart m B Q n v W) (hb : Below W.heap.size W W') (hB : ∀ b, B = some b → b < W.heap.size) : Apart m B Q n v W' := fun b hn hbb => by
  obtain ⟨z1, z2, z3⟩ := h b hn hbb
  have := hb.size
  exact ⟨fun hf => z1 ((fpB_same (fun b hb' => hb.cell (p := ⟨b, 0, none⟩) (hB b hb')) b).1 hf), by omega, z3⟩
theorem ydCn_below {ns : List Nd} {sup : Int} {dss : List (List Int)} {m : Nat → Prop} {B : Option Nat} {Q : Nat} {pre : List Yd} {x : Yd} {W W' : World} (h : ydCn ns sup dss m B Q pre x W) (hb : Below W.heap.size W W') (hB : ∀ b, B = some b → b < W.heap.size) : ydCn ns sup dss m B Q pre x W' :=
  ⟨Nat.lt_of_lt_of_le h.1 hb.size, h.2.1, h.2.2.1.mono hb, h.2.2.2.1.below hb hB, h.2.2.2.2.1.below hb hB, h.2.2.2.2.2.below hb hB⟩
end Go.Proofs.Ytfefocgekmeahaa
