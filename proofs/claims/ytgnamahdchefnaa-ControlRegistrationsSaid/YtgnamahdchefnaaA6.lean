/- The contract of Make. Conditions: bytes. -/
import Derived.Test.YtgnamahdchefnaaAE
import Derived.Test.YtgnamahdchefnaaBA
import Derived.IntWalk
namespace Go.Proofs.Ytgnamahdchefnaa
open Go.RowKit Go.Shelf

abbrev planV (v : Value) (p : Pl) : Value := .agg #[v, .int .u8 p.co, .int .u8 p.ge, .int .u8 p.lv, .int .u8 p.d0, .int .u8 p.d1, .int .u8 p.d2]
set_option linter.unusedVariables false in
set_option maxRecDepth 100000 in
set_option maxHeartbeats 4000000 in
theorem Make_any (v : Value) (p : Pl) (w : World) (hp : p.Ok) (hv : NumSl .u8 w v p.ss) (hcap : ∃ a cap, v = .slice a p.ss.length cap ∧ p.ss.length ≤ cap) : Calls Try.prog 8 #[planV v p] w (ConPost p.con w) := by
  obtain ⟨a, cap, rfl, hcap⟩ := hcap
  obtain ⟨n, hn⟩ : ∃ n, p.n = n := ⟨_, rfl⟩
  have hn2 : n ≤ 3 ∧ n ≤ p.ss.length := by unfold Pl.n at hn; omega
  obtain ⟨hn3, hnl⟩ := hn2
  have hmin : (if (3 : Int) < (p.ss.length : Int) then (3 : Int) else (p.ss.length : Int)) = (n : Int) := by unfold Pl.n at hn; split <;> omega
  have hnc : (n : Int) ≤ (cap : Int) := by omega
  have hn0 : (0 : Int) ≤ (n : Int) := by omega
  obtain ⟨co0, co1⟩ := hp.co
  obtain ⟨ge0, ge1⟩ := hp.ge
  obtain ⟨lv0, lv1⟩ := hp.lv
  have hpc := Lib.hid hp
  replace hn := Lib.hid hn
  clear hp
  have hB := (((Below.refl w.heap.size w).alloc (Nat.le_refl _) (.cells #[.slice a p.ss.length cap, .int .u8 p.co, .int .u8 p.ge, .int .u8 p.lv, .int .u8 p.d0, .int .u8 p.d1, .int .u8 p.d2] 25)).alloc (by simp) (.cells #[.slice none 0 0, .int .i64 0, .int .i64 0, .slice none 0 0, .int .i64 0] 32)).alloc (by simp; omega) (.cells #[.slice none 0 0, .int .i64 (p.co % 4), .int .i64 (p.ge % 4), .slice none 0 0, .int .i64 (1 + p.lv % 2)] 32)
  have b1 := ((BoxC.new w 25 #[.slice a p.ss.length cap, .int .u8 p.co, .int .u8 p.ge, .int .u8 p.lv, .int .u8 p.d0, .int .u8 p.d1, .int .u8 p.d2]).alloc (.cells #[.slice none 0 0, .int .i64 0, .int .i64 0, .slice none 0 0, .int .i64 0] 32)).alloc (.cells #[.slice none 0 0, .int .i64 (p.co % 4), .int .i64 (p.ge % 4), .slice none 0 0, .int .i64 (1 + p.lv % 2)] 32)
  have b2 := (BoxC.new (w.alloc (.cells #[.slice a p.ss.length cap, .int .u8 p.co, .int .u8 p.ge, .int .u8 p.lv, .int .u8 p.d0, .int .u8 p.d1, .int .u8 p.d2] 25)) 32 #[.slice none 0 0, .int .i64 0, .int .i64 0, .slice none 0 0, .int .i64 0]).alloc (.cells #[.slice none 0 0, .int .i64 (p.co % 4), .int .i64 (p.ge % 4), .slice none 0 0, .int .i64 (1 + p.lv % 2)] 32)
  have b3 := BoxC.new ((w.alloc (.cells #[.slice a p.ss.length cap, .int .u8 p.co, .int .u8 p.ge, .int .u8 p.lv, .int .u8 p.d0, .int .u8 p.d1, .int .u8 p.d2] 25)).alloc (.cells #[.slice none 0 0, .int .i64 0, .int .i64 0, .slice none 0 0, .int .i64 0] 32)) 32 #[.slice none 0 0, .int .i64 (p.co % 4), .int .i64 (p.ge % 4), .slice none 0 0, .int .i64 (1 + p.lv % 2)]
  simp only [World.size_alloc] at b2 b3
  go_enter Try.func8, Try.ntmps8
  go_wp2_with fail
  go_loopw [28] (fun i X => ∃ (k : Nat) (κ : Nat → Role) (u0 u3 : Value), k ≤ n ∧ i = .int .i64 k ∧ BoxC X w.heap.size 25 #[.slice a p.ss.length cap, .int .u8 p.co, .int .u8 p.ge, .int .u8 p.lv, .int .u8 p.d0, .int .u8 p.d1, .int .u8 p.d2] ∧ BoxC X (w.heap.size + 1) 32 #[.slice none 0 0, .int .i64 0, .int .i64 0, .slice none 0 0, .int .i64 0] ∧ BoxC X (w.heap.size + 1 + 1) 32 #[u0, .int .i64 (p.co % 4), .int .i64 (p.ge % 4), u3, .int .i64 (1 + p.lv % 2)] ∧
    RowI w.heap.size κ (0, 0, 0) u0 (p.sl.take k) X ∧ RowI w.heap.size κ (1, 0, 0) u3 (p.dl.take k) X ∧ Below w.heap.size w X) (fun i _ => n - (intOf i).toNat)
  case atStart => exact ⟨0, fun _ => (0, 0, 0), _, _, Nat.zero_le _, rfl, b1, b2, b3, RowX.nil _ _ _ _ _ _ _, RowX.nil _ _ _ _ _ _ _, hB⟩
  case round =>
    clear b1 b2 b3 hB
    obtain ⟨k, κ, u0, u3, hk, rfl, b1, b2, b3, hS, hD, hBX⟩ := hrel
    by_cases hlt : k < n
    · have hki : (k : Int) < (n : Int) := by omega
      obtain ⟨b, off, cap', he, hc⟩ := (hv.mono hBX).at (k := k) (by omega)
      cases he
      have hck := hc k (by omega)
      have hzb := hpc.out.ss k (by omega)
      have hsz := p.sl_nth (k := k) (by rw [hn.out]; exact hlt)
      have hdz := p.dl_nth (k := k) (by rw [hn.out]; exact hlt)
      have hts := take_nth (xs := p.sl) (k := k) (by rw [p.sl_len, hn.out]; exact hlt)
      have htd := take_nth (xs := p.dl) (k := k) (by rw [p.dl_len, hn.out]; exact hlt)
      rw [hsz] at hts
      rw [hdz] at htd
      have hsl : (p.sl.take k).length = k := by rw [List.length_take, p.sl_len, hn.out]; omega
      have hdl : (p.dl.take k).length = k := by rw [List.length_take, p.dl_len, hn.out]; omega
      generalize nth p.ss k = z at hck hzb hts
      generalize p.sl.take k = sk at hS hts hsl
      generalize p.dl.take k = dk at hD htd hdl
      obtain ⟨z0, z1⟩ := hzb
      clear hsz hdz hc
      replace hts := Lib.hid hts
      replace htd := Lib.hid htd
      have q0 := b3.cell 0 rfl
      have hX1 := hBX.size
      have hb3l := b3.lt
      have hSr : RowX w.heap.size κ (0, 0, 0) 3 1 u0 sk.length (fun j => .int .i64 (nth sk j)) (wr.alloc (.cells #[.int .i64 (z % 5)] 3)) := RowX.alloc hS _
      go_wp2_with (at_builtin; refine wpList_apX ap30 rfl _ _ rfl rfl hSr (by simp; omega) ⟨wr.heap.size, 0, none⟩ 1 [.int .i64 (z % 5)] rfl rfl (laid_news wr _ 3) (by simp [Value.oneCell']) (by unfold maxLen; omega) (by omega) ?_; intro v' w4 hrow4 hfr4 hoth4; obtain ⟨a6, cap6, rfl⟩ := hrow4.len; have b44 := (b3.alloc (.cells #[.int .i64 (z % 5)] 3)).oth hoth4 (by decide); have x7 := b44.cell 0 rfl; have e7 := b44.frozen 0; have hbl5 := b44.lt)
      have hS5 := RowI.push1 hrow4
      rw [hsl] at hS5
      have hD5 : RowX w.heap.size (Go.Proofs.Ytgnamahdchefnaa.kfrom κ (wr.alloc (.cells #[.int .i64 (z % 5)] 3)).heap.size (0, 0, 0)) (1, 0, 0) 3 1 u3 dk.length (fun j => .int .i64 (nth dk j)) w4 := (RowX.alloc hD (.cells #[.int .i64 (z % 5)] 3)).push hfr4 (by simp)
      have b15 := (b1.alloc (.cells #[.int .i64 (z % 5)] 3)).oth hoth4 (by decide)
      have b25 := (b2.alloc (.cells #[.int .i64 (z % 5)] 3)).oth hoth4 (by decide)
      have hB5 := (hBX.alloc hBX.size (.cells #[.int .i64 (z % 5)] 3)).trans (hfr4.below (by simp; omega))
      have hS6 := RowX.box hS5 b44 (by decide) 0 (.slice a6 (k + 1) cap6)
      have hD6 := hD5.box b44 (by decide) 0 (.slice a6 (k + 1) cap6)
      have b36 := b44.set 0 (.slice a6 (k + 1) cap6)
      simp only [List.setIfInBounds_toArray, List.set_cons_zero] at b36
      have b16 := b15.other (p := ⟨w.heap.size + 1 + 1, 0, none⟩) (by show w.heap.size ≠ w.heap.size + 1 + 1; omega) (.slice a6 (k + 1) cap6)
      have b26 := b25.other (p := ⟨w.heap.size + 1 + 1, 0, none⟩) (by show w.heap.size + 1 ≠ w.heap.size + 1 + 1; omega) (.slice a6 (k + 1) cap6)
      have hB6 := hB5.setCell (p := ⟨w.heap.size + 1 + 1, 0, none⟩) (by show w.heap.size ≤ w.heap.size + 1 + 1; omega) (.slice a6 (k + 1) cap6)
      have hY6 : w.heap.size ≤ (w4.setCell ⟨w.heap.size + 1 + 1, 0, none⟩ (.slice a6 (k + 1) cap6)).heap.size := hB6.size
      generalize Go.Proofs.Ytgnamahdchefnaa.kfrom κ (wr.alloc (.cells #[.int .i64 (z % 5)] 3)).heap.size (0, 0, 0) = κ4 at *
      generalize w4.setCell ⟨w.heap.size + 1 + 1, 0, none⟩ (.slice a6 (k + 1) cap6) = Y at hS6 hD6 b36 b16 b26 hB6 hY6 ⊢
      obtain ⟨y, hy⟩ : ∃ y, p.dv k = y := ⟨_, rfl⟩
      have hyb : 0 ≤ y ∧ y ≤ 255 := by
        rw [← hy]
        have h0 := hpc.out.d0
        have h1 := hpc.out.d1
        have h2 := hpc.out.d2
        unfold Pl.dv
        split
        · exact h0
        · split
          · exact h1
          · exact h2
      obtain ⟨y0, y1⟩ := hyb
      have hck2 : (#[.slice (some ⟨b, off, none⟩) p.ss.length cap, .int .u8 p.co, .int .u8 p.ge, .int .u8 p.lv, .int .u8 p.d0, .int .u8 p.d1, .int .u8 p.d2] : Array Value)[4 + k]? = some (.int .u8 y) := by
        rw [← hy]
        rcases (by omega : k = 0 ∨ k = 1 ∨ k = 2) with h | h | h <;> subst h <;> rfl
      replace htd := htd.out
      rw [hy] at htd
      replace htd := Lib.hid htd
      have hk3 : (k : Int) < 3 := by omega
      have hk0 : (0 : Int) ≤ (k : Int) := by omega
      have hkt : ((k : Int)).toNat = k := Int.toNat_natCast k
      have htm : y.tmod 3 = y % 3 := Int.tmod_eq_emod_of_nonneg y0
      have hwm : IntKind.i64.wrap (y % 3) = y % 3 := IntWalk.i64_in _ (by omega)
      replace hwm := Lib.hid hwm
      replace htm := Lib.hid htm
      clear hS5 hD5 b15 b25 hB5 b44 x7 e7 hbl5 hrow4 hfr4 hoth4 hS hD b1 b2 b3 hBX q0 hb3l hSr hX1 hck
      refine region_head 10 (fun s => #[planV (.slice (some ⟨b, off, none⟩) p.ss.length cap) p, .pointer (some ⟨w.heap.size, 0, none⟩), .pointer (some ⟨w.heap.size + 1, 0, none⟩), .pointer (some ⟨w.heap.size + 1 + 1, 0, none⟩), .int .i64 (k : Int), .int .u8 z, .pointer (some ⟨w.heap.size, 1, none⟩), .int .u8 p.co, .int .u8 (p.co % 4), .int .i64 (p.co % 4), .pointer (some ⟨w.heap.size, 2, none⟩), .int .u8 p.ge, .int .u8 (p.ge % 4), .int .i64 (p.ge % 4), .pointer (some ⟨w.heap.size, 3, none⟩), .int .u8 p.lv, .int .u8 (p.lv % 2), .int .i64 (p.lv % 2), .int .i64 (1 + p.lv % 2), .agg #[.slice none 0 0, .int .i64 (p.co % 4), .int .i64 (p.ge % 4), .slice none 0 0, .int .i64 (1 + p.lv % 2)], .pointer (some ⟨w.heap.size, 0, none⟩), .slice (some ⟨b, off, none⟩) p.ss.length cap, .pointer (some ⟨w.heap.size, 0, none⟩), .slice (some ⟨b, off, none⟩) p.ss.length cap, .int .i64 (p.ss.length : Int), .int .i64 (n : Int), .slice (some ⟨b, off, none⟩) n cap, .int .i64 (n : Int), .int .i64 (k : Int), .bool true, .int .i64 (k : Int), .pointer (some ⟨b, off + k, none⟩), .int .u8 z, .pointer (some ⟨w.heap.size + 1 + 1, 0, none⟩), u0, .int .u8 z, .int .u8 (z % 5), .int .i64 (z % 5), .slice (some ⟨wr.heap.size, 0, none⟩) 1 1, .slice a6 (k + 1) cap6, .pointer (some ⟨w.heap.size + 1 + 1, 0, none⟩), s 0, s 1, s 2, s 3, s 4, s 5, s 6, s 7, s 8, s 9, u51, u52, undef]) (fun i => match i with | 0 => u41 | 1 => u42 | 2 => u43 | 3 => u44 | 4 => u45 | 5 => u46 | 6 => u47 | 7 => u48 | 8 => u49 | 9 => u50 | _ => undef) [] (SpO w.heap.size κ4 Y.heap.size (1, 0, 0) 3 (dk.length + 1) (capp (fun j => .int .i64 (nth dk j)) (dk.length * 1) [.int .i64 (y % 3)]) (.int .i64 (y % 3)) (fun i => match i with | 0 => .pointer (some ⟨w.heap.size + 1 + 1, 3, none⟩) | 1 => u3 | 2 => .int .i64 (k : Int) | 3 => .pointer (some ⟨w.heap.size, 4, none⟩) | 4 => .pointer (some ⟨w.heap.size, 4 + k, none⟩) | 5 => .int .u8 y | 6 => .int .u8 (y % 3) | 7 => .int .i64 (y % 3) | _ => undef) 8 9) (NpO w.heap.size κ4 Y.heap.size (1, 0, 0) 3 dk.length (fun j => .int .i64 (nth dk j)) u3 9) (KeepE w.heap.size (kapN κ4 Y.heap.size) (1, 0, 0) 3 w Y) (OneR w.heap.size (kapN κ4 Y.heap.size) (1, 0, 0) 3 9) (by kernel_rfl) (by kernel_rfl) (by kernel_rfl) (by kernel_rfl) (by decide) (by kernel_rfl) ?base ?need ?step (fun i j u X X' hij _ h hr => spO_stable (by decide) hij h hr) (fun i j X X' hij _ h hr => npO_stable hij h hr) ?tail
      case base => exact KeepE.start hB6 hY6
      case need => exact fun i _ _ => RowX.drew (hD6.rekey (fun b _ hb h => (kfrom_old hb).trans h))
      case step =>
        intro i o hi ho s X hb hn hd
        have same : ∀ i, i ≠ 9 → OneR w.heap.size (kapN κ4 Y.heap.size) (1, 0, 0) 3 9 i X X := fun i h1 => .inr ⟨h1, Below.refl _ _⟩
        have sp : ∀ (i : Nat) (v : Value), i ≠ 9 → i ≠ 8 → v = (match i with | 0 => .pointer (some ⟨w.heap.size + 1 + 1, 3, none⟩) | 1 => u3 | 2 => .int .i64 (k : Int) | 3 => .pointer (some ⟨w.heap.size, 4, none⟩) | 4 => .pointer (some ⟨w.heap.size, 4 + k, none⟩) | 5 => .int .u8 y | 6 => .int .u8 (y % 3) | 7 => .int .i64 (y % 3) | _ => undef : Value) → SpO w.heap.size κ4 Y.heap.size (1, 0, 0) 3 (dk.length + 1) (capp (fun j => .int .i64 (nth dk j)) (dk.length * 1) [.int .i64 (y % 3)]) (.int .i64 (y % 3)) (fun i => match i with | 0 => .pointer (some ⟨w.heap.size + 1 + 1, 3, none⟩) | 1 => u3 | 2 => .int .i64 (k : Int) | 3 => .pointer (some ⟨w.heap.size, 4, none⟩) | 4 => .pointer (some ⟨w.heap.size, 4 + k, none⟩) | 5 => .int .u8 y | 6 => .int .u8 (y % 3) | 7 => .int .i64 (y % 3) | _ => undef) 8 9 i v X := fun i v h1 h2 h3 => ⟨fun e => absurd e h1, fun e => absurd e h2, fun _ _ => h3⟩
        have c1 := hb.box b16 (by decide)
        have c3 := hb.box b36 (by decide)
        match i, hi with
        | 0, _ =>
          simp at ho
          subst ho
          exact wp_val (v := .pointer (some ⟨w.heap.size + 1 + 1, 3, none⟩)) (X' := X) (by simp [execOp, go_sem]) ⟨_, by simp [Act.put, upd], hb, sp 0 _ (by decide) (by decide) rfl, same 0 (by decide)⟩
        | 1, _ =>
          simp at ho
          subst ho
          have h0 : s 0 = .pointer (some ⟨w.heap.size + 1 + 1, 3, none⟩) := (hd ⟨0, .data⟩ (by simp) rfl).2.2 (by decide) (by decide)
          have hc := c3.cell 3 rfl
          exact wp_val (v := u3) (X' := X) (by simp [execOp, go_sem, h0, hc]) ⟨_, by simp [Act.put, upd], hb, sp 1 _ (by decide) (by decide) rfl, same 1 (by decide)⟩
        | 2, _ =>
          simp at ho
          subst ho
          exact wp_val (v := .int .i64 (k : Int)) (X' := X) (by simp [execOp, go_sem]) ⟨_, by simp [Act.put, upd], hb, sp 2 _ (by decide) (by decide) rfl, same 2 (by decide)⟩
        | 3, _ =>
          simp at ho
          subst ho
          exact wp_val (v := .pointer (some ⟨w.heap.size, 4, none⟩)) (X' := X) (by simp [execOp, go_sem]) ⟨_, by simp [Act.put, upd], hb, sp 3 _ (by decide) (by decide) rfl, same 3 (by decide)⟩
        | 4, _ =>
          simp at ho
          subst ho
          have h3 : s 3 = .pointer (some ⟨w.heap.size, 4, none⟩) := (hd ⟨3, .data⟩ (by simp) rfl).2.2 (by decide) (by decide)
          have h2 : s 2 = .int .i64 (k : Int) := (hd ⟨2, .data⟩ (by simp) rfl).2.2 (by decide) (by decide)
          exact wp_val (v := .pointer (some ⟨w.heap.size, 4 + k, none⟩)) (X' := X) (by simp [execOp, go_sem, h2, h3, hk3, hk0, hkt]) ⟨_, by simp [Act.put, upd], hb, sp 4 _ (by decide) (by decide) rfl, same 4 (by decide)⟩
        | 5, _ =>
          simp at ho
          subst ho
          have h4 : s 4 = .pointer (some ⟨w.heap.size, 4 + k, none⟩) := (hd ⟨4, .data⟩ (by simp) rfl).2.2 (by decide) (by decide)
          have hc := c1.cell (4 + k) hck2
          exact wp_val (v := .int .u8 y) (X' := X) (by simp [execOp, go_sem, h4, hc]) ⟨_, by simp [Act.put, upd], hb, sp 5 _ (by decide) (by decide) rfl, same 5 (by decide)⟩
        | 6, _ =>
          simp at ho
          subst ho
          have h5 : s 5 = .int .u8 y := (hd ⟨5, .data⟩ (by simp) rfl).2.2 (by decide) (by decide)
          exact wp_val (v := .int .u8 (y % 3)) (X' := X) (by simp [execOp, go_sem, h5, htm.out]) ⟨_, by simp [Act.put, upd], hb, sp 6 _ (by decide) (by decide) rfl, same 6 (by decide)⟩
        | 7, _ =>
          simp at ho
          subst ho
          have h5 : s 6 = .int .u8 (y % 3) := (hd ⟨6, .data⟩ (by simp) rfl).2.2 (by decide) (by decide)
          exact wp_val (v := .int .i64 (y % 3)) (X' := X) (by simp [execOp, go_sem, h5, hwm.out]) ⟨_, by simp [Act.put, upd], hb, sp 7 _ (by decide) (by decide) rfl, same 7 (by decide)⟩
        | 8, _ =>
          simp at ho
          subst ho
          have h7 : s 7 = .int .i64 (y % 3) := (hd ⟨7, .data⟩ (by simp) rfl).2.2 (by decide) (by decide)
          have hX : Below X.heap.size X (X.alloc (.cells #[.int .i64 (y % 3)] 3)) := (Below.refl _ X).alloc (Nat.le_refl _) _
          have hR : OneR w.heap.size (kapN κ4 Y.heap.size) (1, 0, 0) 3 9 8 X (X.alloc (.cells #[.int .i64 (y % 3)] 3)) := .inr ⟨by decide, hX⟩
          exact wp_val (v := .slice (some ⟨X.heap.size, 0, none⟩) 1 1) (X' := X.alloc (.cells #[.int .i64 (y % 3)] 3)) (by simp [execOp, go_sem, h7]) ⟨_, by simp [Act.put, upd], hb.step hR, ⟨(fun e => by cases e), fun _ => ⟨X.heap.size, rfl, hb.size, by simp, (BoxC.new X 3 #[.int .i64 (y % 3)]).cell 0 rfl⟩, fun _ h => absurd rfl h⟩, hR⟩
        | 9, _ =>
          simp at ho
          subst ho
          have h1 : s 1 = u3 := (hd ⟨1, .data⟩ (by simp) rfl).2.2 (by decide) (by decide)
          obtain ⟨b, e3, hb1, hb2, hb3⟩ : NewCell Y.heap.size (.int .i64 (y % 3)) (s 8) X := (hd ⟨8, .data⟩ (by simp) rfl).2.1 rfl
          exact wp_apX ap30 (.tmp 42) (.tmp 49) rfl (by show s 1 = _; exact h1) (hn rfl) hb.los ⟨b, 0, none⟩ 1 [.int .i64 (y % 3)] (by show s 8 = _; exact e3) rfl (news_cell hb3) (by simp [Value.oneCell']) (by unfold maxLen; omega) (by omega)
            (fun v' w' r1 r2 r3 => ⟨v', by simp [Act.put, upd], hb.step (i := 9) (.inl ⟨rfl, r2, r3⟩), ⟨fun _ => Longer.of4 r1 hb.size, (fun e => by cases e), fun h _ => absurd rfl h⟩, .inl ⟨rfl, r2, r3⟩⟩)
      case tail =>
        intro s X hb hS
        obtain ⟨κ5, hκ5, r9⟩ := (hS 9 (by decide)).1 rfl
        have hD7 := RowI.push1 r9
        have hS7 := hb.row hS6 (by simp) hκ5
        obtain ⟨a8, cap8, h9⟩ := RowX.len hD7
        rw [show (dk ++ [y % 3]).length = k + 1 by simp [hdl]] at h9
        rw [h9] at hD7
        have c1 := hb.box b16 (by decide)
        have c2 := hb.box b26 (by decide)
        have c3 := hb.box b36 (by decide)
        have hBf := hb.below
        have x3 := c3.cell 3 rfl
        have f3 := c3.frozen 3
        have e0 := (hS 0 (by decide)).2.2 (by decide) (by decide)
        simp only [List.drop_succ_cons, List.drop_zero, h9]
        generalize s 0 = t0
        generalize s 1 = t1
        generalize s 2 = t2
        generalize s 3 = t3
        generalize s 4 = t4
        generalize s 5 = t5
        generalize s 6 = t6
        generalize s 7 = t7
        generalize s 8 = t8
        have d1 := c1.other (p := ⟨w.heap.size + 1 + 1, 3, none⟩) (by show w.heap.size ≠ w.heap.size + 1 + 1; omega) (.slice a8 (k + 1) cap8)
        have d2 := c2.other (p := ⟨w.heap.size + 1 + 1, 3, none⟩) (by show w.heap.size + 1 ≠ w.heap.size + 1 + 1; omega) (.slice a8 (k + 1) cap8)
        have d3 := c3.set 3 (.slice a8 (k + 1) cap8)
        simp only [List.setIfInBounds_toArray, List.set_cons_zero, List.set_cons_succ] at d3
        have hS8 := RowX.box hS7 c3 (by decide) 3 (.slice a8 (k + 1) cap8)
        have hD8 := RowX.box hD7 c3 (by decide) 3 (.slice a8 (k + 1) cap8)
        have hBg := hBf.setCell (p := ⟨w.heap.size + 1 + 1, 3, none⟩) (by show w.heap.size ≤ w.heap.size + 1 + 1; omega) (.slice a8 (k + 1) cap8)
        clear hS hb h9 hS7 hD7 r9 hκ5
        replace hsl := Lib.hid hsl
        replace hdl := Lib.hid hdl
        go_wp2_with fail
        go_roundw
        case rel => exact ⟨k + 1, κ5, _, _, by omega, by go_num, d1, d2, d3, by rw [hts.out]; exact hS8, by rw [htd.out]; exact hD8, hBg⟩
        case measure => simp [intOf]; omega
    · obtain rfl : n = k := by omega
      rw [List.take_of_length_le (by rw [p.sl_len, hn.out]; exact Nat.le_refl _)] at hS
      rw [List.take_of_length_le (by rw [p.dl_len, hn.out]; exact Nat.le_refl _)] at hD
      obtain ⟨a6, cap6, h6⟩ := RowX.len hS
      obtain ⟨a7, cap7, h7⟩ := RowX.len hD
      rw [p.sl_len, hn.out] at h6
      rw [p.dl_len, hn.out] at h7
      subst h6
      subst h7
      have x0 := b3.cell 0 rfl
      have x1 := b3.cell 1 rfl
      have x2 := b3.cell 2 rfl
      have x3 := b3.cell 3 rfl
      have x4 := b3.cell 4 rfl
      have r0 := b2.cell 0 rfl
      have r1 := b2.cell 1 rfl
      have r2 := b2.cell 2 rfl
      have r3 := b2.cell 3 rfl
      have r4 := b2.cell 4 rfl
      have e0 := b2.frozen 0
      have e1 := b2.frozen 1
      have e2 := b2.frozen 2
      have e3 := b2.frozen 3
      have e4 := b2.frozen 4
      go_wp2
      have g0 := b2.set 0 (.slice a6 n cap6)
      simp only [List.setIfInBounds_toArray, List.set_cons_zero] at g0
      have g1 := g0.set 1 (.int .i64 (p.co % 4))
      simp only [List.setIfInBounds_toArray, List.set_cons_zero, List.set_cons_succ] at g1
      have g2 := g1.set 2 (.int .i64 (p.ge % 4))
      simp only [List.setIfInBounds_toArray, List.set_cons_zero, List.set_cons_succ] at g2
      have g3 := g2.set 3 (.slice a7 n cap7)
      simp only [List.setIfInBounds_toArray, List.set_cons_zero, List.set_cons_succ] at g3
      have g4 := g3.set 4 (.int .i64 (1 + p.lv % 2))
      simp only [List.setIfInBounds_toArray, List.set_cons_zero, List.set_cons_succ] at g4
      have hS1 := RowX.box (RowX.box (RowX.box (RowX.box (RowX.box hS b2 (by decide) 0 (.slice a6 n cap6)) g0 (by decide) 1 (.int .i64 (p.co % 4))) g1 (by decide) 2 (.int .i64 (p.ge % 4))) g2 (by decide) 3 (.slice a7 n cap7)) g3 (by decide) 4 (.int .i64 (1 + p.lv % 2))
      have hD1 := RowX.box (RowX.box (RowX.box (RowX.box (RowX.box hD b2 (by decide) 0 (.slice a6 n cap6)) g0 (by decide) 1 (.int .i64 (p.co % 4))) g1 (by decide) 2 (.int .i64 (p.ge % 4))) g2 (by decide) 3 (.slice a7 n cap7)) g3 (by decide) 4 (.int .i64 (1 + p.lv % 2))
      have hB1 := ((((hBX.setCell (p := ⟨w.heap.size + 1, 0, none⟩) (by show w.heap.size ≤ w.heap.size + 1; omega) (.slice a6 n cap6)).setCell (p := ⟨w.heap.size + 1, 1, none⟩) (by show w.heap.size ≤ w.heap.size + 1; omega) (.int .i64 (p.co % 4))).setCell (p := ⟨w.heap.size + 1, 2, none⟩) (by show w.heap.size ≤ w.heap.size + 1; omega) (.int .i64 (p.ge % 4))).setCell (p := ⟨w.heap.size + 1, 3, none⟩) (by show w.heap.size ≤ w.heap.size + 1; omega) (.slice a7 n cap7)).setCell (p := ⟨w.heap.size + 1, 4, none⟩) (by show w.heap.size ≤ w.heap.size + 1; omega) (.int .i64 (1 + p.lv % 2))
      exact bodyPost_ret (ret_cell Try.results8 rfl g4 Try.underlying32 size32) rfl ⟨_, _, rfl, ⟨RowI.num hS1, RowI.num hD1⟩, hB1⟩
end Go.Proofs.Ytgnamahdchefnaa
