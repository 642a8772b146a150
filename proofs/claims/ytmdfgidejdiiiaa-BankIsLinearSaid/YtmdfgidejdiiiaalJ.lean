/- A region that draws its order, whose first operations make memory: each operation is walked once, by itself, from the facts on what it waits for; the last operations come in their order. -/
import Derived.Test.YtmdfgidejdiiiaalPltoZa
set_option linter.unusedVariables false
set_option linter.unusedSimpArgs false
namespace Go.Proofs.Ytmdfgidejdiiiaa
open Go.RowKit
section
variable {P : Program} {md : Region.Mode}
def stL : List Oper → Nat → (Nat → Bool) → (Nat → Value) → Act → Act
  | [], _, _, _, a => a
  | o :: l, k, L, vs, a => stL l (k + 1) L vs (if L k then a.put o.dst (vs k) else a)
theorem size_put (a : Act) (d : Option Tmp) (v : Value) : (a.put d v).tmps.size = a.tmps.size := by
  cases d <;> simp [Act.put]
theorem defers_put (a : Act) (d : Option Tmp) (v : Value) : (a.put d v).defers = a.defers := by
  cases d <;> rfl
theorem stL_size : ∀ (l : List Oper) (k : Nat) (L : Nat → Bool) (vs : Nat → Value) (a : Act), (stL l k L vs a).tmps.size = a.tmps.size
  | [], _, _, _, _ => rfl
  | o :: l, k, L, vs, a => by
    show (stL l (k + 1) L vs _).tmps.size = _
    rw [stL_size l]
    split
    · exact size_put _ _ _
    · rfl
theorem stL_congr : ∀ (l : List Oper) (k : Nat) (L L' : Nat → Bool) (vs vs' : Nat → Value) (a : Act), (∀ i, k ≤ i → i < k + l.length → L i = L' i ∧ (L i = true → vs i = vs' i)) → stL l k L vs a = stL l k L' vs' a
  | [], _, _, _, _, _, _, _ => rfl
  | o :: l, k, L, L', vs, vs', a, h => by
    show stL l (k + 1) L vs _ = stL l (k + 1) L' vs' _
    have h0 := h k (Nat.le_refl _) (by simp)
    rw [stL_congr l (k + 1) L L' vs vs' _ (fun i h1 h2 => h i (by omega) (by simp at h2 ⊢; omega))]
    rw [← h0.1]
    split
    · rename_i hL; rw [h0.2 hL]
    · rfl
theorem stL_none : ∀ (l : List Oper) (k : Nat) (vs : Nat → Value) (a : Act), stL l k (fun _ => false) vs a = a
  | [], _, _, _ => rfl
  | o :: l, k, vs, a => by
    show stL l (k + 1) (fun _ => false) vs a = a
    exact stL_none l (k + 1) vs a
theorem stL_put : ∀ (l : List Oper) (k : Nat) (L : Nat → Bool) (vs : Nat → Value) (a : Act) (x : Option Tmp) (v : Value), (∀ (i : Nat) (o : Oper), l[i]? = some o → ∀ d, x = some d → o.dst ≠ some d) → stL l k L vs (a.put x v) = (stL l k L vs a).put x v
  | [], _, _, _, _, _, _, _ => rfl
  | o :: l, k, L, vs, a, x, v, h => by
    show stL l (k + 1) L vs _ = (stL l (k + 1) L vs _).put x v
    rw [← stL_put l (k + 1) L vs _ x v (fun i o' ho => h (i + 1) o' (by simpa using ho))]
    split
    · rw [Act.put_comm a v (vs k) (h 0 o rfl)]
    · rfl
theorem stL_add : ∀ (l : List Oper) (k j : Nat) (L : Nat → Bool) (vs : Nat → Value) (a : Act) (o : Oper) (v : Value), l[j]? = some o → L (k + j) = false →
    (∀ (i : Nat) (o' : Oper), l[i]? = some o' → i ≠ j → ∀ d, o.dst = some d → o'.dst ≠ some d) →
    stL l k (fun i => L i || i == k + j) (fun i => if i = k + j then v else vs i) a = (stL l k L vs a).put o.dst v
  | [], _, _, _, _, _, _, _, h, _, _ => by simp at h
  | o' :: l, k, 0, L, vs, a, o, v, h, hL, hd => by
    simp only [List.getElem?_cons_zero, Option.some.injEq] at h
    subst h
    show stL l (k + 1) _ _ _ = (stL l (k + 1) L vs _).put _ v
    have h1 : L k = false := by simpa using hL
    rw [h1, ← stL_put l (k + 1) L vs _ o'.dst v (fun i o'' ho => hd (i + 1) o'' (by simpa using ho) (by omega))]
    dsimp only
    simp only [Nat.add_zero, beq_self_eq_true, Bool.or_true, if_true, Bool.false_eq_true, if_false]
    refine stL_congr l (k + 1) _ _ _ _ _ fun i h2 h3 => ?_
    have : (i == k) = false := by simp; omega
    rw [this, Bool.or_false]
    exact ⟨rfl, fun _ => if_neg (by omega)⟩
  | o' :: l, k, j + 1, L, vs, a, o, v, h, hL, hd => by
    show stL l (k + 1) _ _ _ = (stL l (k + 1) L vs _).put o.dst v
    have e : k + (j + 1) = (k + 1) + j := by omega
    rw [e]
    rw [stL_add l (k + 1) j L vs _ o v (by simpa using h) (by rw [← e]; exact hL) (fun i o'' ho hi d hd' => hd (i + 1) o'' (by simpa using ho) (by omega) d hd')]
    have h1 : (k == k + 1 + j) = false := by simp; omega
    have h2 : ¬ k = k + 1 + j := by omega
    simp only [h1, h2, Bool.or_false, if_false]
def Alike2 (o : Oper) (a b : Act) : Prop := a.tmps.size = b.tmps.size ∧ ∀ x ∈ o.op.operands, a.eval x = b.eval x
theorem Alike2.put {o : Oper} {a b : Act} (h : Alike2 o a b) (x : Option Tmp) (v : Value) : Alike2 o (a.put x v) (b.put x v) := by
  refine ⟨by rw [size_put, size_put]; exact h.1, fun y hy => ?_⟩
  have hab := h.2 y hy
  cases x with
  | none => exact hab
  | some d =>
    cases y with
    | tmp t =>
      by_cases e : d = t
      · subst e
        have hs := h.1
        simp only [Act.eval, Act.put, Array.getD_eq_getD_getElem?, Array.getElem?_setIfInBounds]
        simp only [if_true, hs]
      · simp only [Act.eval, Act.put, Array.getD_eq_getD_getElem?, Array.getElem?_setIfInBounds_ne e] at hab ⊢
        exact hab
    | _ => simp [Act.eval]
theorem Alike2.put1 {o : Oper} {a b : Act} (h : Alike2 o a b) (x : Option Tmp) (v : Value) (hx : ∀ d, x = some d → .tmp d ∉ o.op.operands) : Alike2 o (a.put x v) b :=
  ⟨by rw [size_put]; exact h.1, fun y hy => (Act.eval_put fun d hd e => hx d hd (by rw [← e]; exact hy)).trans (h.2 y hy)⟩
theorem Alike2.symm {o : Oper} {a b : Act} (h : Alike2 o a b) : Alike2 o b a := ⟨h.1.symm, fun x hx => (h.2 x hx).symm⟩
theorem stL_alike {o : Oper} : ∀ (l : List Oper) (k : Nat) (L D : Nat → Bool) (vs : Nat → Value) (a b : Act), (∀ (i : Nat) (o' : Oper), l[i]? = some o' → L (k + i) ≠ D (k + i) → ∀ d, o'.dst = some d → .tmp d ∉ o.op.operands) → Alike2 o a b → Alike2 o (stL l k L vs a) (stL l k D vs b)
  | [], _, _, _, _, _, _, _, h => h
  | o' :: l, k, L, D, vs, a, b, hd, h => by
    show Alike2 o (stL l (k + 1) L vs _) (stL l (k + 1) D vs _)
    refine stL_alike l (k + 1) L D vs _ _ (fun i o'' ho hne => hd (i + 1) o'' (by simpa using ho) (by rw [show k + (i + 1) = k + 1 + i by omega]; exact hne)) ?_
    have h0 := hd 0 o' rfl
    rw [Nat.add_zero] at h0
    cases hL : L k <;> cases hD : D k
    · exact h
    · exact (h.symm.put1 _ _ (h0 (by rw [hL, hD]; decide))).symm
    · exact h.put1 _ _ (h0 (by rw [hL, hD]; decide))
    · exact h.put _ _
theorem wp_move_frame {o : Oper} {b c : Act} {w : World} {R : Value → World → Prop} {K : Act → World → Prop} {Q : Exit → Act → World → Prop} (hg : o.guard = none) (hs : ∀ cs b, o.op ≠ .select cs b) (he : Alike2 o b c) (hd : ∀ d, o.dst = some d → d < c.tmps.size)
    (h : wpList P #[o] (fun e c' w' => e = .normal ∧ ∃ v, c' = c.put o.dst v ∧ R v w') [o] c w) (hK : ∀ v w', R v w' → K (b.put o.dst v) w') : o.wp P b w K Q := by
  have det : ∀ u v w', c.put o.dst u = c.put o.dst v → R v w' → K (b.put o.dst u) w' := fun u v w' e hr => by
    cases hdst : o.dst with
    | none =>
      have := hK v w' hr
      rw [hdst] at this
      exact this
    | some d =>
      rw [hdst] at e
      have hlt := hd d hdst
      have e2 : (c.put (some d) u).tmps[d]? = (c.put (some d) v).tmps[d]? := by rw [e]
      simp only [Act.put, Array.getElem?_setIfInBounds_self_of_lt hlt, Option.some.injEq] at e2
      subst e2
      have := hK u w' hr
      rw [hdst] at this
      exact this
  have hw : Region.wanted o (yielded #[o] c.tmps) = true := by simp [Region.wanted, hg]
  simp only [wpList, hw, if_true] at h
  rcases h with h | ⟨_, _, _, h, _⟩
  · unfold Oper.wp at h ⊢
    rw [execOp_congr o hs (fun x hx => he.2 x hx)]
    generalize (execOp c.eval o).run P w = r at h ⊢
    cases r with
    | ok n w' =>
      cases n with
      | value v =>
        obtain ⟨_, v', e, hr⟩ := h
        exact det v v' w' e hr
      | skip =>
        obtain ⟨_, v', e, hr⟩ := h
        exact det undef v' w' e hr
      | enter f args =>
        refine Calls.mono h fun e w'' he => ?_
        cases e with
        | returned v =>
          obtain ⟨_, v', e, hr⟩ := he
          exact det v v' w'' e hr
        | panicked chain => exact absurd he.1 (by simp)
        | outgrown =>
          obtain ⟨_, _, he, _⟩ := he
          exact absurd he (by simp)
      | row r args =>
        refine Rows.mono h fun v w'' he => ?_
        obtain ⟨_, v', e, hr⟩ := he
        exact det v v' w'' e hr
      | _ =>
        first
          | (simp [Oper.upon] at h; done)
          | (obtain ⟨_, v', e, hr⟩ := h
             have e2 := congrArg (fun a : Act => a.defers.length) e
             simp [defers_put] at e2)
    | halt x w' =>
      cases x with
      | panic v => exact absurd h.1 (by simp)
      | _ => exact absurd h (by simp [Oper.upon])
  · exact absurd h (by simp)
def depsB (md : Region.Mode) (o : Oper) (j : Nat) : Bool := o.after.toList.any fun e => Region.binds md e && j == e.on
def looksB (o : Oper) (d : Tmp) : Bool := o.op.operands.toList.any fun x => match x with | .tmp t => t == d | _ => false
def dstB (o o' : Oper) : Bool := match o.dst, o'.dst with | some d, some d' => d != d' | _, _ => true
theorem depsB_mem {o : Oper} {j : Nat} (h : depsB md o j = true) : ∃ e ∈ o.after, Region.binds md e = true ∧ e.on = j := by
  unfold depsB at h
  rw [List.any_eq_true] at h
  obtain ⟨e, he, h⟩ := h
  rw [Bool.and_eq_true] at h
  exact ⟨e, by simpa using he, h.1, by have := h.2; simp at this; exact this.symm⟩
theorem cnt_set : ∀ (n : Nat) (p q : Nat → Bool) (i : Nat), i < n → p i = true → q i = false → (∀ j, j ≠ i → q j = p j) → (List.range n).countP p = (List.range n).countP q + 1
  | 0, _, _, _, h, _, _, _ => absurd h (Nat.not_lt_zero _)
  | n + 1, p, q, i, h, hp, hq, he => by
    rw [List.range_succ, List.countP_append, List.countP_append]
    simp only [List.countP_cons, List.countP_nil]
    by_cases e : i = n
    · subst e
      rw [hp, hq, List.countP_congr (q := q) (fun x hx => by rw [he x (by have := List.mem_range.1 hx; omega)])]
      simp
    · rw [cnt_set n p q i (by omega) hp hq he, he n (fun h => e h.symm)]
      omega
theorem cnt_zero {n : Nat} {p : Nat → Bool} (h : (List.range n).countP p = 0) : ∀ i, i < n → p i = false := fun i hi => by
  rw [List.countP_eq_zero] at h
  simpa using h i (List.mem_range.2 hi)
end
end Go.Proofs.Ytmdfgidejdiiiaa
