/- The greedy order: plain. -/
import Derived.Test.YtdiflpbioohddaaDoortE13toE16
set_option linter.unusedVariables false
set_option linter.unusedSimpArgs false
namespace Go.Proofs.YtdiflpbioohddaaDoor
def issF (t : Int × List Int) (i : Ins) : Int := rdF t.2 t.1 i.rd
def freeF (l : List Ins) (tk : List Bool) (k : Nat) : Bool := !(tk.getD k false) && (depRow l k k).all fun i => tk.getD i.toNat false
def betF (l : List Ins) (H : List Int) (t : Int × List Int) (b : Int × Int) (k : Nat) : Bool :=
 decide (b.1 < 0) || decide (issF t (l.getD k Ins.zero) < b.2) || (decide (issF t (l.getD k Ins.zero) = b.2) && decide (H.getD b.1.toNat 0 < H.getD k 0))
def stepB (l : List Ins) (H : List Int) (t : Int × List Int) (tk : List Bool) (b : Int × Int) (k : Nat) : Int × Int :=
 if freeF l tk k then (if betF l H t b k then ((k : Int), issF t (l.getD k Ins.zero)) else b) else b
def bestB (l : List Ins) (H : List Int) (t : Int × List Int) (tk : List Bool) (m : Nat) : Int × Int := (List.range m).foldl (stepB l H t tk) (-1, 0)
theorem bestB_succ (l : List Ins) (H : List Int) (t : Int × List Int) (tk : List Bool) (m : Nat) : bestB l H t tk (m + 1) = stepB l H t tk (bestB l H t tk m) m := by
 unfold bestB
 rw [List.range_succ, List.foldl_append]; rfl
def grS (l : List Ins) (H : List Int) (s : List Bool × List Ins) : List Bool × List Ins :=
 (s.1.set (bestB l H (tmF s.2) s.1 l.length).1.toNat true, s.2 ++ [l.getD (bestB l H (tmF s.2) s.1 l.length).1.toNat Ins.zero])
def gr (l : List Ins) (H : List Int) : Nat → List Bool × List Ins
 | 0 => (List.replicate l.length false, [])
 | r + 1 => grS l H (gr l H r)
def grF (l : List Ins) : List Ins := (gr l (htF l) l.length).2
def grD (l : List Ins) : List Ins := if fineF l then grF l else []
theorem bestB_spec (l : List Ins) (H : List Int) (t : Int × List Int) (tk : List Bool) : ∀ m, (bestB l H t tk m = (-1, 0) ∧ ∀ k, k < m → freeF l tk k = false) ∨
  (∃ k : Nat, k < m ∧ bestB l H t tk m = ((k : Int), issF t (l.getD k Ins.zero)) ∧ freeF l tk k = true)
 | 0 => .inl ⟨rfl, fun k h => absurd h (Nat.not_lt_zero k)⟩
 | m + 1 => by
  rw [bestB_succ]
  unfold stepB
  by_cases hf : freeF l tk m = true
  ·rw [if_pos hf]
   refine .inr ?_
   by_cases hb : betF l H t (bestB l H t tk m) m = true
   ·rw [if_pos hb]; exact ⟨m, by omega, rfl, hf⟩
   ·rw [if_neg hb]
    rcases bestB_spec l H t tk m with ⟨h1, -⟩ | ⟨k, h1, h2, h3⟩
    ·exfalso; apply hb; rw [h1]; rfl
    ·exact ⟨k, by omega, h2, h3⟩
  ·rw [if_neg hf]
   rcases bestB_spec l H t tk m with ⟨h1, h2⟩ | ⟨k, h1, h2, h3⟩
   ·refine .inl ⟨h1, fun k hk => ?_⟩
    by_cases e : k = m
    ·subst e; simpa using hf
    ·exact h2 k (by omega)
   ·exact .inr ⟨k, by omega, h2, h3⟩
theorem least_false (tk : List Bool) : ∀ k : Nat, tk[k]? = some false → ∃ k' : Nat, tk[k']? = some false ∧ ∀ i, i < k' → tk[i]? ≠ some false := fun k => by
 induction k using Nat.strongRecOn with
 | _ k ih =>
  intro h
  by_cases hh : ∃ i, i < k ∧ tk[i]? = some false
  ·obtain ⟨i, h1, h2⟩ := hh
   exact ih i h1 h2
  ·exact ⟨k, h, fun i hi hc => hh ⟨i, hi, hc⟩⟩
theorem free_some {l : List Ins} {tk : List Bool} (h : false ∈ tk) : ∃ k, k < tk.length ∧ freeF l tk k = true := by
 obtain ⟨k0, hk0⟩ := List.getElem?_of_mem h
 obtain ⟨k, h1, h2⟩ := least_false tk k0 hk0
 have hk := (List.getElem?_eq_some_iff.1 h1).1
 refine ⟨k, hk, ?_⟩
 unfold freeF
 rw [Bool.and_eq_true]
 refine ⟨by rw [List.getD_eq_getElem?_getD, h1]; rfl, ?_⟩
 rw [List.all_eq_true]
 intro v hv
 obtain ⟨i, hi, rfl, -⟩ := depRow_mem hv
 have h3 := h2 i hi
 rw [Int.toNat_natCast, List.getD_eq_getElem?_getD]
 have hi2 : tk[i]? = some tk[i] := List.getElem?_eq_getElem (by omega)
 rw [hi2] at h3 ⊢
 cases e : tk[i] with
 | true => rfl
 | false => rw [e] at h3; exact absurd rfl h3
theorem free_not {l : List Ins} {tk : List Bool} {k : Nat} (h : freeF l tk k = true) (hk : k < tk.length) : tk[k]? = some false := by
 unfold freeF at h
 obtain ⟨h1, -⟩ := Bool.and_eq_true_iff.1 h
 rw [List.getD_eq_getElem?_getD, List.getElem?_eq_getElem hk] at h1
 rw [List.getElem?_eq_getElem hk]
 cases e : tk[k] with
 | true => rw [e] at h1; cases h1
 | false => rfl
theorem gr_inv (l : List Ins) (H : List Int) : ∀ r, r ≤ l.length → (gr l H r).1.length = l.length ∧ (gr l H r).1.count false = l.length - r ∧ (gr l H r).2.length = r ∧ (∀ i ∈ (gr l H r).2, i ∈ l) ∧
  (r < l.length → ∃ k : Nat, k < l.length ∧ bestB l H (tmF (gr l H r).2) (gr l H r).1 l.length = ((k : Int), issF (tmF (gr l H r).2) (l.getD k Ins.zero)) ∧ (gr l H r).1[k]? = some false) := fun r => by
 have main : ∀ r, r ≤ l.length → ((gr l H r).1.length = l.length ∧ (gr l H r).1.count false = l.length - r ∧ (gr l H r).2.length = r ∧ (∀ i ∈ (gr l H r).2, i ∈ l)) →
   (r < l.length → ∃ k : Nat, k < l.length ∧ bestB l H (tmF (gr l H r).2) (gr l H r).1 l.length = ((k : Int), issF (tmF (gr l H r).2) (l.getD k Ins.zero)) ∧ (gr l H r).1[k]? = some false) := by
  intro r hr ⟨h1, h2, h3, h4⟩ hlt
  have hm : false ∈ (gr l H r).1 := by
   rw [← List.count_pos_iff, h2]; omega
  obtain ⟨k, hk, hf⟩ := free_some (l := l) hm
  rcases bestB_spec l H (tmF (gr l H r).2) (gr l H r).1 l.length with ⟨-, h5⟩ | ⟨k', h5, h6, h7⟩
  ·rw [h5 k (by omega)] at hf; cases hf
  ·exact ⟨k', h5, h6, free_not h7 (by omega)⟩
 induction r with
 | zero =>
  intro hr
  have h0 : ((gr l H 0).1.length = l.length ∧ (gr l H 0).1.count false = l.length - 0 ∧ (gr l H 0).2.length = 0 ∧ (∀ i ∈ (gr l H 0).2, i ∈ l)) := ⟨by simp [gr], by simp [gr], rfl, fun i hi => by simp [gr] at hi⟩
  exact ⟨h0.1, h0.2.1, h0.2.2.1, h0.2.2.2, main 0 hr h0⟩
 | succ r ih =>
  intro hr
  obtain ⟨h1, h2, h3, h4, h5⟩ := ih (by omega)
  obtain ⟨k, hk, hb, hf⟩ := h5 (by omega)
  have e : gr l H (r + 1) = ((gr l H r).1.set k true, (gr l H r).2 ++ [l.getD k Ins.zero]) := by
   show grS l H (gr l H r) = _
   unfold grS
   rw [hb, Int.toNat_natCast]
  have h0 : ((gr l H (r + 1)).1.length = l.length ∧ (gr l H (r + 1)).1.count false = l.length - (r + 1) ∧ (gr l H (r + 1)).2.length = r + 1 ∧ (∀ i ∈ (gr l H (r + 1)).2, i ∈ l)) := by
   rw [e]
   refine ⟨by simp [h1], ?_, by simp [h3], fun i hi => ?_⟩
   ·show ((gr l H r).1.set k true).count false = _
    have hkl : k < (gr l H r).1.length := by omega
    rw [List.count_set hkl]
    have e2 : (gr l H r).1[k] = false := by
     have := hf
     rw [List.getElem?_eq_getElem hkl] at this
     exact Option.some.inj this
    rw [e2, h2]
    simp; omega
   ·rcases List.mem_append.1 hi with hi | hi
    ·exact h4 i hi
    ·rw [List.mem_singleton.1 hi, List.getD_eq_getElem?_getD, List.getElem?_eq_getElem hk]
     exact List.getElem_mem hk
  exact ⟨h0.1, h0.2.1, h0.2.2.1, h0.2.2.2, main (r + 1) hr h0⟩
theorem gr_succ {l : List Ins} {H : List Int} {r k : Nat} {f : Int} (hb : bestB l H (tmF (gr l H r).2) (gr l H r).1 l.length = ((k : Int), f)) : gr l H (r + 1) = ((gr l H r).1.set k true, (gr l H r).2 ++ [l.getD k Ins.zero]) := by
 show grS l H (gr l H r) = _
 unfold grS
 rw [hb]; rfl
theorem gr_fine {l : List Ins} (h : fineF l = true) {o : List Ins} (h1 : 1 ≤ o.length) (h2 : o.length ≤ l.length) (h3 : ∀ i ∈ o, i ∈ l) : fineF o = true := by
 have := fineF_len h
 unfold fineF at h ⊢
 obtain ⟨h4, h5⟩ := Bool.and_eq_true_iff.1 h
 rw [List.all_eq_true] at h5
 rw [Bool.and_eq_true]
 refine ⟨?_, List.all_eq_true.2 fun i hi => h5 i (h3 i hi)⟩
 unfold inB
 rw [Bool.and_eq_true, decide_eq_true_eq, decide_eq_true_eq]
 omega
end Go.Proofs.YtdiflpbioohddaaDoor
