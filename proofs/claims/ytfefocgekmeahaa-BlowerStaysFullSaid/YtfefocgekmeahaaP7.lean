/- Plain laws of a step with a supply of at least -1: bounds, and right levels. No walk. Conditions: a right plant, levels and demand. -/
import Derived.Test.YtfefocgekmeahaaP6
namespace Go.Proofs.Ytfefocgekmeahaa

section
variable {ns : List Nd} {lv dm ws : List Int} {sup : Int} {i : Int} {s : List Int × Int}
/-- what is left, while it is given out -/
theorem gv_lb (hw : ∀ k, 0 ≤ nth ws k) (h0 : -1 ≤ s.2) (h1 : s.2 ≤ 1000000000) : ∀ k : Nat, -1 ≤ (gv ns ws i s k).2 ∧ (gv ns ws i s k).2 ≤ 1000000000
  | 0 => ⟨h0, h1⟩
  | k + 1 => by
    have ih := gv_lb hw h0 h1 k
    have h2 := hw k
    unfold gv
    split
    · simp only; omega
    · exact ih
theorem gv_tb (hw : ∀ k, 0 ≤ nth ws k) (h0 : -1 ≤ s.2) (h1 : s.2 ≤ 2000000000) (ht : ∀ j, -1 ≤ nth s.1 j ∧ nth s.1 j ≤ nth ws j) (hl : s.1.length = ns.length) : ∀ k : Nat, k ≤ ns.length → ((-1 ≤ (gv ns ws i s k).2) ∧ ∀ j, -1 ≤ nth (gv ns ws i s k).1 j ∧ nth (gv ns ws i s k).1 j ≤ nth ws j)
  | 0, _ => ⟨h0, ht⟩
  | k + 1, hk => by
    obtain ⟨ih1, ih2⟩ := gv_tb hw h0 h1 ht hl k (by omega)
    have h2 := hw k
    unfold gv
    split
    · refine ⟨by simp only; omega, fun j => ?_⟩
      simp only
      rw [nth_set (by rw [gv_len]; omega)]
      split
      · rename_i e; subst e; omega
      · exact ih2 j
    · exact ⟨ih1, ih2⟩
/-- the state behind the first i nodes of a step, with a supply of at least -1 -/
structure StB (ns : List Nd) (lv ws : List Int) (i : Nat) (s : St) : Prop where
  tk : ∀ j, -1 ≤ nth s.tk j ∧ nth s.tk j ≤ nth ws j
  lo : ∀ j, j < i → 0 ≤ nth s.lv j ∧ nth s.lv j ≤ (nd ns j).c
  hi : ∀ j, i ≤ j → nth s.lv j = nth lv j
theorem stB (hp : PlOk ns) (hl : LvOk ns lv) (hd : DmOk ns dm) (h0 : -1 ≤ sup) (h1 : sup ≤ 1000000000) : ∀ i : Nat, i ≤ ns.length → StB ns lv (wF ns lv dm) i (stT ns sup lv dm (wF ns lv dm) i)
  | 0, _ => by
    have hw := wF_bd hp hl hd
    have h := (gv_tb (ns := ns) (i := -1) (s := (zeros ns.length, sup)) (fun k => (hw k).1) h0 (by simp only; omega) (fun j => by rw [nth_zeros]; exact ⟨by omega, (hw j).1⟩) (zeros_len _) ns.length (Nat.le_refl _)).2
    exact ⟨h, fun j hj => by omega, fun j _ => rfl⟩
  | i + 1, hi => by
    have hw := wF_bd hp hl hd
    obtain ⟨h2, h3, h4⟩ := stB hp hl hd h0 h1 i (by omega)
    obtain ⟨l1, l2, l3⟩ := stT_len (sup := sup) (dm := dm) (ws := wF ns lv dm) hl.len i
    have e : stT ns sup lv dm (wF ns lv dm) (i + 1) = ⟨(stT ns sup lv dm (wF ns lv dm) i).lv.set i (gv ns (wF ns lv dm) i ((stT ns sup lv dm (wF ns lv dm) i).tk, nth lv i + nth (stT ns sup lv dm (wF ns lv dm) i).tk i - min (nth dm i) (nth lv i + nth (stT ns sup lv dm (wF ns lv dm) i).tk i)) ns.length).2,
      (gv ns (wF ns lv dm) i ((stT ns sup lv dm (wF ns lv dm) i).tk, nth lv i + nth (stT ns sup lv dm (wF ns lv dm) i).tk i - min (nth dm i) (nth lv i + nth (stT ns sup lv dm (wF ns lv dm) i).tk i)) ns.length).1,
      (stT ns sup lv dm (wF ns lv dm) i).lk.set i (nth dm i - min (nth dm i) (nth lv i + nth (stT ns sup lv dm (wF ns lv dm) i).tk i))⟩ := rfl
    rw [e]
    clear e
    generalize stT ns sup lv dm (wF ns lv dm) i = s at h2 h3 h4 l1 l2 l3
    have hti := h2 i
    have hli := hl.r i (by omega)
    have hdi := hd.all i
    have hci := hp.c i (by omega)
    have hwi := wF_eq (lv := lv) hp hd.len (show i < ns.length by omega)
    have hwb := hw i
    have hch := (chP_bd (ns := ns) (i := (i : Int)) hw ns.length).1
    obtain ⟨H, hH⟩ : ∃ H, nth lv i + nth s.tk i - min (nth dm i) (nth lv i + nth s.tk i) = H := ⟨_, rfl⟩
    have hH0 : 0 ≤ H ∧ H ≤ 2000000000 := by omega
    rw [hH]
    have hL := gv_left (ns := ns) (ws := wF ns lv dm) (i := (i : Int)) (s := (s.tk, H)) (fun k => (hw k).1) hH0.1 ns.length
    simp only at hL
    refine ⟨(gv_tb (ns := ns) (i := (i : Int)) (s := (s.tk, H)) (fun k => (hw k).1) (by simp only; omega) hH0.2 h2 l2 ns.length (Nat.le_refl _)).2, fun j hj => ?_, fun j hj => ?_⟩
    · simp only
      rw [nth_set (by omega)]
      split
      · rename_i e
        subst e
        rw [hL]
        omega
      · exact h3 j (by omega)
    · simp only
      rw [nth_set (by omega), if_neg (by omega)]
      exact h4 j (by omega)
theorem stepF_lv (hp : PlOk ns) (hl : LvOk ns lv) (hd : DmOk ns dm) (h0 : -1 ≤ sup) (h1 : sup ≤ 1000000000) : LvOk ns (stepF ns sup lv dm).lv :=
  ⟨(stT_len hl.len ns.length).1, fun k hk => (stB hp hl hd h0 h1 ns.length (Nat.le_refl _)).lo k hk⟩
theorem runT_lv1 {dss : List (List Int)} (hp : PlOk ns) (h0 : -1 ≤ sup) (h1 : sup ≤ 1000000000) (hd : DssOk ns dss) : ∀ k, k ≤ dss.length → LvOk ns (runT ns sup dss k).lv
  | 0, _ => lvOk_lvs hp
  | k + 1, h => stepF_lv hp (runT_lv1 hp h0 h1 hd k (by omega)) (hd k (by omega)) h0 h1
theorem runT_len {dss : List (List Int)} (hp : PlOk ns) (h0 : -1 ≤ sup) (h1 : sup ≤ 1000000000) (hd : DssOk ns dss) (k : Nat) (hk : k < dss.length) : (runT ns sup dss (k + 1)).lv.length = ns.length ∧ (runT ns sup dss (k + 1)).tk.length = ns.length ∧ (runT ns sup dss (k + 1)).lk.length = ns.length :=
  stT_len (runT_lv1 hp h0 h1 hd k (by omega)).len ns.length
end
end Go.Proofs.Ytfefocgekmeahaa
