/- Plain laws of trees of bands. -/
import Derived.Test.YtimhplkkgbpapaaVp
namespace Go.Proofs.Ytimhplkkgbpapaa

/-- The low band behind k levels. -/
def loF (ls : List Lft) (x : List Int) : Nat → List Int
  | 0 => x
  | k + 1 => (analyseF ls (loF ls x k)).1
/-- The high bands of k levels. -/
def hiF (ls : List Lft) (x : List Int) (k : Nat) : List (List Int) := (List.range k).map fun i => (analyseF ls (loF ls x i)).2
def treeB (ls : List Lft) (x : List Int) (k : Nat) : List (List Int) := hiF ls x k ++ [loF ls x k]
def unF (ls : List Lft) (bs : List (List Int)) (a : List Int) : List Int := bs.foldr (fun b x => synthF ls x b) a
theorem hiF_length (ls : List Lft) (x : List Int) (k : Nat) : (hiF ls x k).length = k := by simp [hiF]
theorem hiF_succ (ls : List Lft) (x : List Int) (k : Nat) : hiF ls x (k + 1) = hiF ls x k ++ [(analyseF ls (loF ls x k)).2] := by simp [hiF, List.range_succ]
theorem treeB_length (ls : List Lft) (x : List Int) (k : Nat) : (treeB ls x k).length = k + 1 := by simp [treeB, hiF_length]
theorem w32_analyse2 {ls : List Lft} {x : List Int} (hw : W32 x) : W32 (analyseF ls x).1 ∧ W32 (analyseF ls x).2 := w32_fold 1 ls _ ⟨w32_ev hw, w32_od hw⟩
theorem w32_lo {ls : List Lft} {x : List Int} (hw : W32 x) : ∀ k, W32 (loF ls x k)
  | 0 => hw
  | k + 1 => (w32_analyse2 (w32_lo hw k)).1
theorem w32_hi {ls : List Lft} {x : List Int} (hw : W32 x) (k : Nat) : ∀ l ∈ hiF ls x k, W32 l := fun l hl => by
  unfold hiF at hl
  obtain ⟨i, _, rfl⟩ := List.mem_map.1 hl
  exact (w32_analyse2 (w32_lo hw i)).2
theorem w32_tree {ls : List Lft} {x : List Int} (hw : W32 x) (k : Nat) : ∀ l ∈ treeB ls x k, W32 l := fun l hl => by
  rcases List.mem_append.1 hl with h | h
  · exact w32_hi hw k l h
  · simp at h; subst h; exact w32_lo hw k
/-- What length the bands have. -/
theorem lo_length {ls : List Lft} {x : List Int} {L m : Nat} (hx : x.length = 2 ^ L * m) : ∀ k, k ≤ L → (loF ls x k).length = 2 ^ (L - k) * m
  | 0, _ => hx
  | k + 1, h => by
    have ih := lo_length (ls := ls) hx k (by omega)
    rw [show L - k = (L - (k + 1)) + 1 by omega, Nat.pow_succ, Nat.mul_comm (2 ^ (L - (k + 1))) 2, Nat.mul_assoc] at ih
    exact (analyse_length ih).1
theorem lo_even {ls : List Lft} {x : List Int} {L m k : Nat} (hx : x.length = 2 ^ L * m) (h : k < L) : (loF ls x k).length = 2 * (2 ^ (L - 1 - k) * m) := by
  rw [lo_length hx k (by omega), show L - k = (L - 1 - k) + 1 by omega, Nat.pow_succ, Nat.mul_comm (2 ^ (L - 1 - k)) 2, Nat.mul_assoc]
theorem hi_get {ls : List Lft} {x : List Int} {k i : Nat} (h : i < k) : (hiF ls x k)[i]? = some (analyseF ls (loF ls x i)).2 := by
  unfold hiF
  rw [List.getElem?_map, List.getElem?_range h]; rfl
def lenL (ll : List (List Int)) (i : Nat) : Nat := ((ll[i]?).getD []).length
theorem lenL_get {ll : List (List Int)} {i : Nat} {l : List Int} (h : ll[i]? = some l) : lenL ll i = l.length := by unfold lenL; rw [h]; rfl
theorem tree_len_hi {ls : List Lft} {x : List Int} {L m i : Nat} (hx : x.length = 2 ^ L * m) (h : i < L) : lenL (treeB ls x L) i = 2 ^ (L - 1 - i) * m := by
  rw [lenL_get (l := (analyseF ls (loF ls x i)).2)]
  · exact (analyse_length (lo_even hx h)).2
  · unfold treeB
    rw [List.getElem?_append_left (by rw [hiF_length]; exact h)]
    exact hi_get h
theorem tree_len_lo {ls : List Lft} {x : List Int} {L m : Nat} (hx : x.length = 2 ^ L * m) : lenL (treeB ls x L) L = m := by
  rw [lenL_get (l := loF ls x L)]
  · rw [lo_length hx L (Nat.le_refl _), Nat.sub_self]; simp
  · unfold treeB
    rw [List.getElem?_append_right (by rw [hiF_length]; exact Nat.le_refl _), hiF_length, Nat.sub_self]; rfl
/-- Have the bands the lengths of a tree's? -/
def fitB (ll : List (List Int)) : Bool :=
  decide (2 ≤ ll.length) && (decide (ll.length ≤ 7) && (((List.range (ll.length - 2)).all fun i => decide (2 * lenL ll (i + 1) = lenL ll i)) && decide (lenL ll (ll.length - 1) = lenL ll (ll.length - 2))))
theorem fitB_tree {ls : List Lft} {x : List Int} {L m : Nat} (h1 : 1 ≤ L) (h6 : L ≤ 6) (hx : x.length = 2 ^ L * m) : fitB (treeB ls x L) = true := by
  unfold fitB
  rw [treeB_length, Bool.and_eq_true, Bool.and_eq_true, Bool.and_eq_true, decide_eq_true_eq, decide_eq_true_eq, decide_eq_true_eq]
  refine ⟨by omega, by omega, List.all_eq_true.2 fun i hi => ?_, ?_⟩
  · have hi := List.mem_range.1 hi
    rw [decide_eq_true_eq, tree_len_hi hx (by omega), tree_len_hi hx (by omega), show L - 1 - i = (L - 1 - (i + 1)) + 1 by omega, Nat.pow_succ, Nat.mul_comm (2 ^ (L - 1 - (i + 1))) 2, Nat.mul_assoc]
  · rw [show L + 1 - 1 = L by omega, tree_len_lo hx, show L + 1 - 2 = L - 1 by omega, tree_len_hi hx (by omega), Nat.sub_self]; simp
def sumL (ll : List (List Int)) : Nat := (ll.map List.length).sum
theorem sumL_append (a b : List (List Int)) : sumL (a ++ b) = sumL a + sumL b := by simp [sumL]
theorem tree_sum {ls : List Lft} {x : List Int} {L m : Nat} (hx : x.length = 2 ^ L * m) : ∀ k, k ≤ L → sumL (hiF ls x k) + (loF ls x k).length = x.length
  | 0, _ => by simp [hiF, sumL, loF]
  | k + 1, h => by
    have ih := tree_sum (ls := ls) hx k (by omega)
    have e := lo_even (ls := ls) (k := k) hx (by omega)
    have l2 := (analyse_length (ls := ls) e).2
    have l1 : (loF ls x (k + 1)).length = _ := (analyse_length (ls := ls) e).1
    rw [hiF_succ, sumL_append, l1]
    have : sumL [(analyseF ls (loF ls x k)).2] = (analyseF ls (loF ls x k)).2.length := by simp [sumL]
    rw [this, l2]
    omega
theorem treeB_sum {ls : List Lft} {x : List Int} {L m : Nat} (hx : x.length = 2 ^ L * m) : sumL (treeB ls x L) = x.length := by
  unfold treeB
  rw [sumL_append, ← tree_sum (ls := ls) hx L (Nat.le_refl _)]
  simp [sumL]
theorem un_tree {ls : List Lft} {x : List Int} {L m : Nat} (hx : x.length = 2 ^ L * m) (hw : W32 x) : ∀ k, k ≤ L → unF ls (hiF ls x k) (loF ls x k) = x
  | 0, _ => rfl
  | k + 1, h => by
    have ih := un_tree (ls := ls) hx hw k (by omega)
    unfold unF at ih ⊢
    rw [hiF_succ, List.foldr_append]
    have e := synth_analyse (ls := ls) (lo_even (ls := ls) (k := k) hx (by omega)) (w32_lo hw k)
    have e2 : List.foldr (fun b x => synthF ls x b) (loF ls x (k + 1)) [(analyseF ls (loF ls x k)).2] = loF ls x k := e
    rw [e2]
    exact ih
/-- The lengths on the way back. -/
def unD (ls : List Lft) (bs : List (List Int)) (a : List Int) (i : Nat) : List Int := unF ls (bs.drop i) a
theorem unD_end (ls : List Lft) (bs : List (List Int)) (a : List Int) : unD ls bs a bs.length = a := by unfold unD; rw [List.drop_length]; rfl
theorem unD_zero (ls : List Lft) (bs : List (List Int)) (a : List Int) : unD ls bs a 0 = unF ls bs a := rfl
theorem unD_step {ls : List Lft} {bs : List (List Int)} {a b : List Int} {i : Nat} (h : bs[i]? = some b) : unD ls bs a i = synthF ls (unD ls bs a (i + 1)) b := by
  obtain ⟨hi, rfl⟩ := List.getElem?_eq_some_iff.1 h
  unfold unD
  rw [List.drop_eq_getElem_cons hi]
  rfl
/-- The error of Untree's checks on lengths, opened. -/
theorem fitB_iff {ll : List (List Int)} : fitB ll = true ↔ 2 ≤ ll.length ∧ ll.length ≤ 7 ∧ (∀ i, i + 2 < ll.length → 2 * lenL ll (i + 1) = lenL ll i) ∧ lenL ll (ll.length - 1) = lenL ll (ll.length - 2) := by
  unfold fitB
  rw [Bool.and_eq_true, Bool.and_eq_true, Bool.and_eq_true, decide_eq_true_eq, decide_eq_true_eq, decide_eq_true_eq, List.all_eq_true]
  constructor
  · rintro ⟨h1, h2, h3, h4⟩
    exact ⟨h1, h2, fun i hi => by have := h3 i (List.mem_range.2 (by omega)); simpa using this, h4⟩
  · rintro ⟨h1, h2, h3, h4⟩
    exact ⟨h1, h2, fun i hi => by have := List.mem_range.1 hi; simpa using h3 i (by omega), h4⟩
theorem fit_len {ls : List Lft} {ll bs : List (List Int)} {a : List Int} (hf : fitB ll = true) (he : ll = bs ++ [a]) : ∀ j i, j + (i + 1) = bs.length → (unD ls bs a (i + 1)).length = lenL ll i := by
  obtain ⟨f1, f2, f3, f4⟩ := fitB_iff.1 hf
  have hl : ll.length = bs.length + 1 := by rw [he]; simp
  intro j
  induction j with
  | zero =>
    intro i hi
    rw [show i + 1 = bs.length by omega, unD_end]
    rw [show ll.length - 1 = bs.length by omega, show ll.length - 2 = i by omega] at f4
    rw [← f4]
    rw [lenL_get (l := a)]
    rw [he, List.getElem?_append_right (Nat.le_refl _), Nat.sub_self]; rfl
  | succ j ih =>
    intro i hi
    have hb : bs[i + 1]? = some bs[i + 1] := List.getElem?_eq_getElem (by omega)
    rw [unD_step hb]
    have e := synth_length ls (unD ls bs a (i + 1 + 1)) bs[i + 1]
    rw [e, ih (i + 1) (by omega)]
    exact f3 i (by omega)
theorem w32_synth2 {ls : List Lft} {a b : List Int} (ha : W32 a) (hb : W32 b) : W32 (synthF ls a b) := by
  have := w32_fold (-1) ls.reverse (a, b) ⟨ha, hb⟩
  exact w32_weave this.1 this.2
theorem w32_unD {ls : List Lft} {bs : List (List Int)} {a : List Int} (ha : W32 a) (hb : ∀ l ∈ bs, W32 l) : ∀ j i, j + i = bs.length → W32 (unD ls bs a i) := by
  intro j
  induction j with
  | zero => intro i hi; rw [show i = bs.length by omega, unD_end]; exact ha
  | succ j ih =>
    intro i hi
    have hbi : bs[i]? = some bs[i] := List.getElem?_eq_getElem (by omega)
    rw [unD_step hbi]
    exact w32_synth2 (ih (i + 1) (by omega)) (hb _ (List.getElem_mem _))
theorem fit_sum {ll : List (List Int)} : ∀ (n : Nat), n + 2 = ll.length → (∀ i, i + 2 < ll.length → 2 * lenL ll (i + 1) = lenL ll i) → lenL ll (ll.length - 1) = lenL ll (ll.length - 2) → sumL ll = 2 * lenL ll 0 := by
  intro n
  induction n generalizing ll with
  | zero =>
    intro hn _ h2
    match ll, hn with
    | [a, b], _ => simp [sumL, lenL] at h2 ⊢; omega
  | succ n ih =>
    intro hn h1 h2
    match ll, hn with
    | a :: t, hn =>
      simp at hn
      have s1 : ∀ i, lenL (a :: t) (i + 1) = lenL t i := fun i => by simp [lenL]
      have e := ih (ll := t) (by omega) (fun i hi => by have := h1 (i + 1) (by simp; omega); rw [s1, s1] at this; exact this) (by
        rw [List.length_cons, show t.length + 1 - 1 = (t.length - 1) + 1 by omega, show t.length + 1 - 2 = (t.length - 2) + 1 by omega, s1, s1] at h2; exact h2)
      have h0 := h1 0 (by simp; omega)
      rw [s1] at h0
      have e1 : sumL (a :: t) = a.length + sumL t := by simp [sumL]
      have e0 : lenL (a :: t) 0 = a.length := by simp [lenL]
      rw [e1, e, e0]
      rw [e0] at h0
      omega
end Go.Proofs.Ytimhplkkgbpapaa
