/- A range over an iterator whose elements name memory: its contract tells what each element reads as in the world in which it comes. Lemmas on code, over the kit's law of a range over a function; no program. Conditions: none. -/
import Derived.Test.YtfefocgekmeahaaKeep
namespace Go.Proofs.Ytfefocgekmeahaa
open Go Go.RowKit

/-- what holds goes on to hold behind a store into block Q -/
def StoreFree {β : Type} (Q : Nat) (J : β → World → Prop) : Prop := ∀ s X i u, J s X → J s (X.setCell ⟨Q, i, none⟩ u)

/-- the contract of an iterator that keeps a block Q of its own, and tells of each element x, coming behind pre in the world W, that Cn Q pre x W -/
def SeqTold {α : Type} (F : Fence) (n : Nat) (P : Program) (g : Nat) (lb : Array Value) (encs : α → Array Value) (Cn : Nat → List α → α → World → Prop) (Kp : World → World → Prop) (S Sp : List α → Prop) (N : Nat) (w : World) : Prop :=
  ∀ (l : Nat) (J Jx : Nat → List α → World → Prop) (W : World), Below w.heap.size w W → (∀ Q, W.heap.size ≤ Q → AbidesFrom W.heap.size (J Q) ∧ StoreFree Q (J Q)) → (∀ Q, W.heap.size ≤ Q → AbidesFrom W.heap.size (Jx Q)) →
    (∀ Q, W.heap.size ≤ Q → ∀ pre x W1, J Q pre W1 → Cn Q pre x W1 → pre.length < N → YieldAt F (n - 1) P l (encs x) W1 fun e W' =>
      (e = .returned (.bool true) ∧ J Q (pre ++ [x]) W' ∧ Kp W1 W') ∨ (e = .returned (.bool false) ∧ Jx Q (pre ++ [x]) W')) →
    (∀ Q, W.heap.size ≤ Q → J Q [] W) →
    CallsIn F n P g (#[.func (.yield l) #[] #[]] ++ lb) W fun e W' => (∃ v, e = .returned v) ∧ ∃ Q, W.heap.size ≤ Q ∧ ((∃ xs, S xs ∧ J Q xs W') ∨ (∃ pre, Sp pre ∧ Jx Q pre W'))

/-- the two blocks that a loop over an iterator lays behind w: its record, and the list of deferred calls, which stays empty -/
structure Books (w : World) (r : Loop) (W : World) : Prop where
  rcd : W.heap[w.heap.size + 1]? = some (.loop r)
  dfr : W.heap[w.heap.size]? = some (.deferred (some []))
section
variable {w W W' : World} {r r' : Loop}
theorem Books.lt (h : Books w r W) : w.heap.size + 1 < W.heap.size := heap_lt h.rcd
theorem Books.keep (h : Books w r W) (hk : KeepsFrom w.heap.size W W') : Books w r W' := ⟨hk.same _ _ (by omega) h.rcd rfl, hk.same _ _ (Nat.le_refl _) h.dfr rfl⟩
theorem Books.turn (h : Books w r W) (r' : Loop) : Books w r' (W.putObj (w.heap.size + 1) (.loop r')) := ⟨World.putObj_heap_same h.lt, (World.putObj_heap_other (by omega)).trans h.dfr⟩
theorem Books.walks (h : Books w r W) {row : Option Nat} (hg : W.grownBy W' row) (hr : ∀ k, row = some k → ∃ o : Obj, W.heap[k]? = some o ∧ o.isWalk = true) : Books w r W' :=
  ⟨(grownBy_keeps hg hr h.rcd rfl).trans h.rcd, (grownBy_keeps hg hr h.dfr rfl).trans h.dfr⟩
theorem Books.below (h : Books w r W) (hb : Below W.heap.size W W') : Books w r W' := ⟨(hb.block _ h.lt).trans h.rcd, (hb.block _ (heap_lt h.dfr)).trans h.dfr⟩
theorem Books.store (h : Books w r W) {Q : Nat} (hQ : w.heap.size + 2 ≤ Q) (i : Nat) (u : Value) : Books w r (W.setCell ⟨Q, i, none⟩ u) :=
  ⟨(Below.heap_setCell W _ u _ (by show w.heap.size + 1 ≠ Q; omega)).trans h.rcd, (Below.heap_setCell W _ u _ (by show w.heap.size ≠ Q; omega)).trans h.dfr⟩
theorem Books.laid (w : World) (r : Loop) : Books w r ((w.alloc (.deferred (some []))).alloc (.loop r)) :=
  ⟨by have := World.alloc_heap_new (w.alloc (.deferred (some []))) (.loop r); rwa [World.size_alloc] at this, (Below.heap_alloc _ _ _ (by simp)).trans (World.alloc_heap_new w _)⟩
end

/-- a turn of a loop's record changes no cell -/
theorem cell_putLoop {W : World} {l : Nat} {r r' : Loop} (h : W.heap[l]? = some (.loop r)) (p : Addr) : (W.putObj l (.loop r')).cell? p = W.cell? p := by
  by_cases hp : p.block = l
  · unfold World.cell?
    rw [hp, h, World.putObj_heap_same (heap_lt h)]
  · exact World.cell?_of_block (World.putObj_heap_other hp)

theorem wpIn_range_told {F : Fence} {n : Nat} {P : Program} {α : Type} {g : Operand} {ps : Array Tmp} {assign body : Code} {Q : Exit → Act → World → Prop} {a : Act} {w : World}
    (hro : F.round = none) (h1 : 1 ≤ n) {gf : Nat} {lb : Array Value} (hg : a.eval g = .func (.func gf) #[] lb) (hFg : F.fn gf) (eg : ∀ args w, (callFunc gf args).run P w = .ok (.enter gf args) w)
    {encs : α → Array Value} {Cn : Nat → List α → α → World → Prop} {Kp : World → World → Prop} {S Sp : List α → Prop} {N : Nat} {w0 : World} (hseq : SeqTold F (n - 1) P gf lb encs Cn Kp S Sp N w0)
    (hKt : ∀ {A B C : World}, Kp A B → Kp B C → Kp A C) (hKb : ∀ (W : World) (l : Nat) (o o' : Obj), w.heap.size ≤ l → W.heap[l]? = some o → o.isCells = false → o.isWalk = false → Kp W (W.putObj l o'))
    (hb0 : Below w0.heap.size w0 w) (hps : ∀ x, (encs x).size = ps.size)
    (I : Nat → List α → World → Prop) (Ix : Nat → Code → List α → World → Prop) (hI : ∀ Q, w.heap.size + 2 ≤ Q → OwnFrom w.heap.size (I Q) ∧ StoreFree Q (I Q)) (hIx : ∀ Q c, w.heap.size + 2 ≤ Q → OwnFrom w.heap.size (Ix Q c))
    (hCn : ∀ Q pre x W l r r', Cn Q pre x W → W.heap[l]? = some (.loop r) → Cn Q pre x (W.putObj l (.loop r'))) (h0 : ∀ Q, w.heap.size + 2 ≤ Q → ∀ W, Below w.heap.size w W → W.heap.size = w.heap.size + 2 → I Q [] W) (hCnB : ∀ Q pre x W W', w.heap.size + 2 ≤ W.heap.size → Cn Q pre x W → Below W.heap.size W W' → Cn Q pre x W') (hKB : ∀ W W', w.heap.size + 2 ≤ W.heap.size → Below W.heap.size W W' → Kp W W')
    (Ax : α → Act → World → Prop) (hAx : ∀ x a', OwnFrom w.heap.size (fun (_ : Unit) W => Ax x a' W))
    (hassign : ∀ (l : Nat) (x : α) (W : World) (K : Act → World → Prop), (∀ a' W', Below W.heap.size W W' → Ax x a' W' → K a' W') →
      assign.wpIn (F.inRound l) (n - 1 - 1) P (Exit.then K (fun _ _ _ => False)) { tmps := (ps.zip (encs x)).foldl (fun t (p, v) => t.setIfInBounds p v) a.tmps, defers := [] } W)
    (hbody : ∀ (l Q : Nat) (pre : List α) (x : α) (a' : Act) (W : World), w.heap.size ≤ l → w.heap.size + 2 ≤ Q → I Q pre W → Cn Q pre x W → Ax x a' W → pre.length < N → body.wpIn (F.inRound l) (n - 1 - 1) P (ownPostG w.heap.size Kp (I Q) (Ix Q) (pre ++ [x]) W) a' W)
    (hdone : ∀ (D q : Nat) (xs : List α) (W : World), w.heap.size ≤ D → w.heap.size + 2 ≤ q → S xs → I q xs W → W.heap[D]? = some (.deferred (some [])) → Q .normal { a with defers := { target := .collected D, args := #[] } :: a.defers } W)
    (hstop : ∀ (D q : Nat) (c : Code) (pre : List α) (W : World), w.heap.size ≤ D → w.heap.size + 2 ≤ q → Sp pre → Ix q c pre W → W.heap[D]? = some (.deferred (some [])) → c.wpIn F n P Q { a with defers := { target := .collected D, args := #[] } :: a.defers } W) :
    (Code.rangeFunc g ps assign body).wpIn F n P Q a w := by
  refine wpIn_rangeFunc fun fn hfn => ?_
  rw [hro]
  obtain ⟨rc, hrc⟩ : ∃ rc : LoopState → Option Code → Loop, rc = fun st pe => { state := st, pending := pe, fn, tmps := a.tmps, params := ps, assign, body, defers := w.heap.size } := ⟨_, rfl⟩
  have bk := Books.laid w (rc .ready none)
  have hW : Below w.heap.size w ((w.alloc (.deferred (some []))).alloc (.loop (rc .ready none))) := ((Below.refl _ w).alloc (Nat.le_refl _) _).alloc (by simp) _
  have hent : (Instr.enterLoop fn a.tmps ps assign body none).run P w = .ok (w.heap.size + 1, [{ target := .collected w.heap.size, args := #[] }]) ((w.alloc (.deferred (some []))).alloc (.loop (rc .ready none))) := by
    rw [hrc]; exact run_enterLoop_outer _ _ _ _ _
  have hsz : ((w.alloc (.deferred (some []))).alloc (.loop (rc .ready none))).heap.size = w.heap.size + 2 := by simp
  generalize (w.alloc (.deferred (some []))).alloc (.loop (rc .ready none)) = W1 at bk hW hent hsz
  refine ⟨_, _, W1, { target := .fn (.func gf) lb, args := #[.func (.yield (w.heap.size + 1)) #[] #[]] }, W1, gf, #[.func (.yield (w.heap.size + 1)) #[] #[]] ++ lb, W1, hent, by simp only [resolve, hg]; simp [go_sem], ?_, by simp [invoke, go_sem, eg], fun _ => h1, ?_⟩
  · intro f' hf'
    simp [Target.leads] at hf'
    subst hf'
    exact hFg
  have up : ∀ {A : World} {row : Option Nat}, (∀ r, row = some r → W1.heap.size ≤ r ∧ ∃ o : Obj, A.heap[r]? = some o ∧ o.isWalk = true) → ∀ r, row = some r → w.heap.size ≤ r ∧ ∃ o : Obj, A.heap[r]? = some o ∧ o.isCells = false := fun hr r e => by
    obtain ⟨hB, o, ho, hw⟩ := hr r e
    exact ⟨by omega, o, ho, Obj.not_cells_of_walk hw⟩
  refine (hseq (w.heap.size + 1) (fun Q pre W => I Q pre W ∧ Books w (rc .ready none) W) (fun Q pre W => ∃ c, Ix Q c pre W ∧ Books w (rc .done (some c)) W) W1 (hb0.trans (hW.mono hb0.size))
    (fun Q hQ => ⟨fun s A B row hs hg' hr => ⟨(hI Q (by omega)).1 s A B row hs.1 hg' (up hr), hs.2.walks hg' (fun k e => (hr k e).2)⟩, fun s X i u hs => ⟨(hI Q (by omega)).2 s X i u hs.1, hs.2.store (by omega) i u⟩⟩)
    (fun Q hQ s A B row ⟨c, h, hb⟩ hg' hr => ⟨c, hIx Q c (by omega) s A B row h hg' (up hr), hb.walks hg' (fun k e => (hr k e).2)⟩) ?_ (fun Q hQ => ⟨h0 Q (by omega) W1 hW hsz, bk⟩)).mono ?_
  · rintro Q hQ pre x W ⟨hi, hb⟩ hcn hlen
    have hQ2 : w.heap.size + 2 ≤ Q := by omega
    have hIQ := (hI Q hQ2).1
    have hy := run_yield (P := P) (args := encs x) hb.rcd (by rw [hrc]; exact hps x)
    rw [hrc] at hy
    refine ⟨fn, _, assign, body, hy, roundIn_of_wpIn hfn (hassign _ x W _ ?_)⟩
    clear hy
    intro a' Wa hbl hax
    have hlt := hb.lt
    have hka := hKB W Wa (by omega) hbl
    replace hcn := hCnB Q pre x W Wa (by omega) hcn hbl
    replace hi := ownFrom_grown hIQ hi hbl
    replace hb := hb.below hbl
    have hb2 := hb.turn { rc .ready none with state := .busy }
    have hk2 := hKt hka (hKb Wa _ _ (.loop { rc .ready none with state := .busy }) (by omega) hb.rcd rfl rfl)
    refine ⟨_, run_beginRound hb.rcd (by rw [hrc]), ?_⟩
    refine wpIn_mono (hbody _ Q pre x a' _ (by omega) hQ2 (hIQ.putObj _ hi (by omega) hb.rcd rfl) (hCn Q pre x Wa _ _ _ hcn hb.rcd) ((hAx x a').putObj (s := ()) _ hax (by omega) hb.rcd rfl) hlen) ?_
    generalize Wa.putObj (w.heap.size + 1) (.loop { rc .ready none with state := .busy }) = W2 at hb2 hk2
    have fin : ∀ (jump : Option Code) (W3 : World), KeepsFrom w.heap.size W2 W3 → Books w { rc .ready none with state := .busy } W3 ∧
        (Instr.endRound (w.heap.size + 1) jump).run P W3 = .ok (.bool jump.isNone) (W3.putObj (w.heap.size + 1) (.loop (rc (if jump.isNone then .ready else .done) jump))) ∧
        Books w (rc (if jump.isNone then .ready else .done) jump) (W3.putObj (w.heap.size + 1) (.loop (rc (if jump.isNone then .ready else .done) jump))) := fun jump W3 hk3 => by
      have hb3 := hb2.keep hk3
      have := run_endRound (P := P) jump hb3.rcd
      rw [hrc] at this ⊢
      rw [hrc] at hb3
      exact ⟨hb3, this, hb3.turn _⟩
    have out : ∀ (c : Code) (W3 : World), KeepsFrom w.heap.size W2 W3 → Ix Q c (pre ++ [x]) W3 → ∃ v W4, (Instr.endRound (w.heap.size + 1) (some c)).run P W3 = .ok v W4 ∧
        ((Ending.returned v = .returned (.bool true) ∧ (I Q (pre ++ [x]) W4 ∧ Books w (rc .ready none) W4) ∧ Kp W W4) ∨ (Ending.returned v = .returned (.bool false) ∧ ∃ c, Ix Q c (pre ++ [x]) W4 ∧ Books w (rc .done (some c)) W4)) := fun c W3 hk3 hx => by
      obtain ⟨hb3, hr, hb4⟩ := fin (some c) W3 hk3
      exact ⟨_, _, hr, .inr ⟨rfl, c, (hIx Q c hQ2).putObj _ hx (by omega) hb3.rcd rfl, hb4⟩⟩
    rintro e a3 W3 hp
    cases e with
    | normal =>
      obtain ⟨hk3, hkp3, hi3⟩ := hp
      obtain ⟨hb3, hr, hb4⟩ := fin none W3 hk3
      exact ⟨_, _, hr, .inl ⟨rfl, ⟨hIQ.putObj _ hi3 (by omega) hb3.rcd rfl, hb4⟩, hKt (hKt hk2 hkp3) (hKb _ _ _ _ (by omega) hb3.rcd rfl rfl)⟩⟩
    | ret => exact out .ret W3 hp.1 hp.2
    | exit id => exact out (.exit id) W3 hp.1 hp.2
    | goto t => exact out (.goto t) W3 hp.1 hp.2
    | panic ch => exact hp.elim
    | outgrown => exact hp.elim
  · rintro e W2 ⟨⟨v, rfl⟩, Q, hQ, (⟨xs, hS, hi, hb⟩ | ⟨pre, hSp, c, hi, hb⟩)⟩
    · have := run_endLoop (P := P) hb.rcd (by rw [hrc]; simp)
      rw [hrc] at this hb
      exact ⟨none, _, this, hdone _ Q xs _ (Nat.le_refl _) (by omega) hS ((hI Q (by omega)).1.putObj _ hi (by omega) hb.rcd rfl) ((World.putObj_heap_other (by omega)).trans hb.dfr)⟩
    · have := run_endLoop (P := P) hb.rcd (by rw [hrc]; simp)
      rw [hrc] at this hb
      exact ⟨some c, _, this, hstop _ Q c pre _ (Nat.le_refl _) (by omega) hSp ((hIx Q c (by omega)).putObj _ hi (by omega) hb.rcd rfl) ((World.putObj_heap_other (by omega)).trans hb.dfr)⟩
end Go.Proofs.Ytfefocgekmeahaa
