/- A region that draws its order, whose first operations make memory: each operation is walked once, by itself, from the facts on what it waits for; the last operations come in their order. -/
import Derived.Test.YtmdfgidejdiiiaadPltoAs
set_option linter.unusedVariables false
set_option linter.unusedSimpArgs false
namespace Go.Proofs.Ytmdfgidejdiiiaa
open Go.RowKit
theorem run_move' {P : Program} {ρ : Operand → Value} {o : Oper} (x : Operand) (h : o.op = .move x) (w : World) : (execOp ρ o).run P w = .ok (.value (ρ x)) w := by
  unfold execOp; rw [h]; rfl
theorem run_assign' {P : Program} {ρ : Operand → Value} {o : Oper} (x : Operand) (h : o.op = .assign x) (w : World) : (execOp ρ o).run P w = .ok (.value (ρ x)) w := by
  unfold execOp; rw [h]; rfl
section
variable {P : Program} {md : Region.Mode}
def stL : List Oper → Nat → (Nat → Bool) → (Nat → Value) → Act → Act
  | [], _, _, _, a => a
  | o :: l, k, L, vs, a => stL l (k + 1) L vs (if L k then a.put o.dst (vs k) else a)
theorem size_put (a : Act) (d : Option Tmp) (v : Value) : (a.put d v).tmps.size = a.tmps.size := by
  cases d <;> simp [Act.put]
theorem defers_put (a : Act) (d : Option Tmp) (v : Value) : (a.put d v).defers = a.defers := by
  cases d <;> rfl
theorem stL_size : ∀ (l : List Oper) (k : Nat) (L : Nat → Bool) (vs : Nat → Value) (a : Act), (stL l k L vs a).tmps.size = a.tmps.size
  | [], _, _, _, _ => rfl
  | o :: l, k, L, vs, a => by
    show (stL l (k + 1) L vs _).tmps.size = _
    rw [stL_size l]
    split
    · exact size_put _ _ _
    · rfl
theorem stL_congr : ∀ (l : List Oper) (k : Nat) (L L' : Nat → Bool) (vs vs' : Nat → Value) (a : Act), (∀ i, k ≤ i → i < k + l.length → L i = L' i ∧ (L i = true → vs i = vs' i)) → stL l k L vs a = stL l k L' vs' a
  | [], _, _, _, _, _, _, _ => rfl
  | o :: l, k, L, L', vs, vs', a, h => by
    show stL l (k + 1) L vs _ = stL l (k + 1) L' vs' _
    have h0 := h k (Nat.le_refl _) (by simp)
    rw [stL_congr l (k + 1) L L' vs vs' _ (fun i h1 h2 => h i (by omega) (by simp at h2 ⊢; omega))]
    rw [← h0.1]
    split
    · rename_i hL; rw [h0.2 hL]
    · rfl
theorem stL_none : ∀ (l : List Oper) (k : Nat) (vs : Nat → Value) (a : Act), stL l k (fun _ => false) vs a = a
  | [], _, _, _ => rfl
  | o :: l, k, vs, a => by
    show stL l (k + 1) (fun _ => false) vs a = a
    exact stL_none l (k + 1) vs a
theorem stL_put : ∀ (l : List Oper) (k : Nat) (L : Nat → Bool) (vs : Nat → Value) (a : Act) (x : Option Tmp) (v : Value), (∀ (i : Nat) (o : Oper), l[i]? = some o → ∀ d, x = some d → o.dst ≠ some d) → stL l k L vs (a.put x v) = (stL l k L vs a).put x v
  | [], _, _, _, _, _, _, _ => rfl
  | o :: l, k, L, vs, a, x, v, h => by
    show stL l (k + 1) L vs _ = (stL l (k + 1) L vs _).put x v
    rw [← stL_put l (k + 1) L vs _ x v (fun i o' ho => h (i + 1) o' (by simpa using ho))]
    split
    · rw [Act.put_comm a v (vs k) (h 0 o rfl)]
    · rfl
theorem stL_add : ∀ (l : List Oper) (k j : Nat) (L : Nat → Bool) (vs : Nat → Value) (a : Act) (o : Oper) (v : Value), l[j]? = some o → L (k + j) = false →
    (∀ (i : Nat) (o' : Oper), l[i]? = some o' → i ≠ j → ∀ d, o.dst = some d → o'.dst ≠ some d) →
    stL l k (fun i => L i || i == k + j) (fun i => if i = k + j then v else vs i) a = (stL l k L vs a).put o.dst v
  | [], _, _, _, _, _, _, _, h, _, _ => by simp at h
  | o' :: l, k, 0, L, vs, a, o, v, h, hL, hd => by
    simp only [List.getElem?_cons_zero, Option.some.injEq] at h
    subst h
    show stL l (k + 1) _ _ _ = (stL l (k + 1) L vs _).put _ v
    have h1 : L k = false := by simpa using hL
    rw [h1, ← stL_put l (k + 1) L vs _ o'.dst v (fun i o'' ho => hd (i + 1) o'' (by simpa using ho) (by omega))]
    dsimp only
    simp only [Nat.add_zero, beq_self_eq_true, Bool.or_true, if_true, Bool.false_eq_true, if_false]
    refine stL_congr l (k + 1) _ _ _ _ _ fun i h2 h3 => ?_
    have : (i == k) = false := by simp; omega
    rw [this, Bool.or_false]
    exact ⟨rfl, fun _ => if_neg (by omega)⟩
  | o' :: l, k, j + 1, L, vs, a, o, v, h, hL, hd => by
    show stL l (k + 1) _ _ _ = (stL l (k + 1) L vs _).put o.dst v
    have e : k + (j + 1) = (k + 1) + j := by omega
    rw [e]
    rw [stL_add l (k + 1) j L vs _ o v (by simpa using h) (by rw [← e]; exact hL) (fun i o'' ho hi d hd' => hd (i + 1) o'' (by simpa using ho) (by omega) d hd')]
    have h1 : (k == k + 1 + j) = false := by simp; omega
    have h2 : ¬ k = k + 1 + j := by omega
    simp only [h1, h2, Bool.or_false, if_false]
def Alike2 (o : Oper) (a b : Act) : Prop := a.tmps.size = b.tmps.size ∧ ∀ x ∈ o.op.operands, a.eval x = b.eval x
theorem Alike2.put {o : Oper} {a b : Act} (h : Alike2 o a b) (x : Option Tmp) (v : Value) : Alike2 o (a.put x v) (b.put x v) := by
  refine ⟨by rw [size_put, size_put]; exact h.1, fun y hy => ?_⟩
  have hab := h.2 y hy
  cases x with
  | none => exact hab
  | some d =>
    cases y with
    | tmp t =>
      by_cases e : d = t
      · subst e
        have hs := h.1
        simp only [Act.eval, Act.put, Array.getD_eq_getD_getElem?, Array.getElem?_setIfInBounds]
        simp only [if_true, hs]
      · simp only [Act.eval, Act.put, Array.getD_eq_getD_getElem?, Array.getElem?_setIfInBounds_ne e] at hab ⊢
        exact hab
    | _ => simp [Act.eval]
theorem Alike2.put1 {o : Oper} {a b : Act} (h : Alike2 o a b) (x : Option Tmp) (v : Value) (hx : ∀ d, x = some d → .tmp d ∉ o.op.operands) : Alike2 o (a.put x v) b :=
  ⟨by rw [size_put]; exact h.1, fun y hy => (Act.eval_put fun d hd e => hx d hd (by rw [← e]; exact hy)).trans (h.2 y hy)⟩
theorem Alike2.symm {o : Oper} {a b : Act} (h : Alike2 o a b) : Alike2 o b a := ⟨h.1.symm, fun x hx => (h.2 x hx).symm⟩
theorem stL_alike {o : Oper} : ∀ (l : List Oper) (k : Nat) (L D : Nat → Bool) (vs : Nat → Value) (a b : Act), (∀ (i : Nat) (o' : Oper), l[i]? = some o' → L (k + i) ≠ D (k + i) → ∀ d, o'.dst = some d → .tmp d ∉ o.op.operands) → Alike2 o a b → Alike2 o (stL l k L vs a) (stL l k D vs b)
  | [], _, _, _, _, _, _, _, h => h
  | o' :: l, k, L, D, vs, a, b, hd, h => by
    show Alike2 o (stL l (k + 1) L vs _) (stL l (k + 1) D vs _)
    refine stL_alike l (k + 1) L D vs _ _ (fun i o'' ho hne => hd (i + 1) o'' (by simpa using ho) (by rw [show k + (i + 1) = k + 1 + i by omega]; exact hne)) ?_
    have h0 := hd 0 o' rfl
    rw [Nat.add_zero] at h0
    cases hL : L k <;> cases hD : D k
    · exact h
    · exact (h.symm.put1 _ _ (h0 (by rw [hL, hD]; decide))).symm
    · exact h.put1 _ _ (h0 (by rw [hL, hD]; decide))
    · exact h.put _ _
theorem put_det {b c : Act} {x : Option Tmp} {u v : Value} (hs : b.tmps.size = c.tmps.size) (hd : ∀ d, x = some d → d < c.tmps.size) (e : c.put x u = c.put x v) : b.put x u = b.put x v := by
  cases x with
  | none => rfl
  | some d =>
    have hlt := hd d rfl
    have e2 : (c.put (some d) u).tmps[d]? = (c.put (some d) v).tmps[d]? := by rw [e]
    simp only [Act.put, Array.getElem?_setIfInBounds_self_of_lt hlt, Option.some.injEq] at e2
    rw [e2]
theorem wp_move_frame {o : Oper} {b c : Act} {w : World} {R : Value → World → Prop} {K : Act → World → Prop} {Q : Exit → Act → World → Prop} (hg : o.guard = none) (hs : ∀ cs b, o.op ≠ .select cs b) (he : Alike2 o b c) (hd : ∀ d, o.dst = some d → d < c.tmps.size)
    (h : wpList P #[o] (fun e c' w' => e = .normal ∧ ∃ v, c' = c.put o.dst v ∧ R v w') [o] c w) (hK : ∀ v w', R v w' → K (b.put o.dst v) w') : o.wp P b w K Q := by
  have det : ∀ u v w', c.put o.dst u = c.put o.dst v → R v w' → K (b.put o.dst u) w' := fun u v w' e hr => by
    cases hdst : o.dst with
    | none =>
      have := hK v w' hr
      rw [hdst] at this
      exact this
    | some d =>
      rw [hdst] at e
      have hlt := hd d hdst
      have e2 : (c.put (some d) u).tmps[d]? = (c.put (some d) v).tmps[d]? := by rw [e]
      simp only [Act.put, Array.getElem?_setIfInBounds_self_of_lt hlt, Option.some.injEq] at e2
      subst e2
      have := hK u w' hr
      rw [hdst] at this
      exact this
  have hw : Region.wanted o (yielded #[o] c.tmps) = true := by simp [Region.wanted, hg]
  simp only [wpList, hw, if_true] at h
  rcases h with h | ⟨_, _, _, h, _⟩
  · unfold Oper.wp at h ⊢
    rw [execOp_congr o hs (fun x hx => he.2 x hx)]
    generalize (execOp c.eval o).run P w = r at h ⊢
    cases r with
    | ok n w' =>
      cases n with
      | value v =>
        obtain ⟨_, v', e, hr⟩ := h
        exact det v v' w' e hr
      | skip =>
        obtain ⟨_, v', e, hr⟩ := h
        exact det undef v' w' e hr
      | enter f args =>
        refine Calls.mono h fun e w'' he => ?_
        cases e with
        | returned v =>
          obtain ⟨_, v', e, hr⟩ := he
          exact det v v' w'' e hr
        | panicked chain => exact absurd he.1 (by simp)
        | outgrown =>
          obtain ⟨_, _, he, _⟩ := he
          exact absurd he (by simp)
      | row r args =>
        refine Rows.mono h fun v w'' he => ?_
        obtain ⟨_, v', e, hr⟩ := he
        exact det v v' w'' e hr
      | _ =>
        first
          | (simp [Oper.upon] at h; done)
          | (obtain ⟨_, v', e, hr⟩ := h
             have e2 := congrArg (fun a : Act => a.defers.length) e
             simp [defers_put] at e2)
    | halt x w' =>
      cases x with
      | panic v => exact absurd h.1 (by simp)
      | _ => exact absurd h (by simp [Oper.upon])
  · exact absurd h (by simp)
def depsB (md : Region.Mode) (o : Oper) (j : Nat) : Bool := o.after.toList.any fun e => Region.binds md e && j == e.on
def looksB (o : Oper) (d : Tmp) : Bool := o.op.operands.toList.any fun x => match x with | .tmp t => t == d | _ => false
def dstB (o o' : Oper) : Bool := match o.dst, o'.dst with | some d, some d' => d != d' | _, _ => true
def lagB (o : Oper) : Bool := match o.op with | .move _ => true | .assign _ => true | .extract _ _ => true | _ => false
def growB (md : Region.Mode) (N size : Nat) (l : List Oper) : Bool :=
  Region.noSelect l.toArray && (decide (N ≤ l.length) && (List.range l.length).all fun i => match l[i]? with
    | none => true
    | some o => o.guard.isNone && ((match o.dst with | some d => decide (d < size) | none => true) && ((o.after.toList.all fun e => !Region.binds md e || decide (e.on < i)) && ((List.range l.length).all fun j => match l[j]? with
        | none => true
        | some o' => (i == j || dstB o o') && ((depsB md o j || (match o'.dst with | some d => !looksB o d | none => true)) && (decide (i < N) || (decide (i ≤ j) || (depsB md o j || (decide (j < N) && lagB o')))))))))
def stepsL (P : Program) (md : Region.Mode) (ops : List Oper) (a : Act) (C : World → Prop) (G : World → World → Prop) (F : Nat → Value → World → Prop) : Nat → List Oper → Prop
  | _, [] => True
  | k, o :: l => (∀ vs w, C w → (∀ i, depsB md o i = true → F i (vs i) w) → wpList P #[o] (fun e c w' => e = .normal ∧ ∃ v, c = (stL ops 0 (depsB md o) vs a).put o.dst v ∧ (F k v w' ∧ G w w')) [o] (stL ops 0 (depsB md o) vs a) w) ∧ stepsL P md ops a C G F (k + 1) l
theorem stepsL_at {ops : List Oper} {a : Act} {C : World → Prop} {G : World → World → Prop} {F : Nat → Value → World → Prop} : ∀ (l : List Oper) (k j : Nat) (o : Oper), stepsL P md ops a C G F k l → l[j]? = some o →
    ∀ vs w, C w → (∀ i, depsB md o i = true → F i (vs i) w) → wpList P #[o] (fun e c w' => e = .normal ∧ ∃ v, c = (stL ops 0 (depsB md o) vs a).put o.dst v ∧ (F (k + j) v w' ∧ G w w')) [o] (stL ops 0 (depsB md o) vs a) w
  | [], _, _, _, _, h => by simp at h
  | o :: l, k, 0, o', hs, h => by
    simp only [List.getElem?_cons_zero, Option.some.injEq] at h
    subst h
    exact hs.1
  | o :: l, k, j + 1, o', hs, h => by
    rw [show k + (j + 1) = k + 1 + j by omega]
    exact stepsL_at l (k + 1) j o' hs.2 (by simpa using h)
theorem growB_spec {N size : Nat} {l : List Oper} (h : growB md N size l = true) {i : Nat} {o : Oper} (ho : l[i]? = some o) :
    o.guard = none ∧ (∀ d, o.dst = some d → d < size) ∧ (∀ e ∈ o.after, Region.binds md e = true → e.on < i) ∧ ∀ j o', l[j]? = some o' → (i ≠ j → ∀ d, o.dst = some d → o'.dst ≠ some d) ∧ (depsB md o j = false → ∀ d, o'.dst = some d → .tmp d ∉ o.op.operands) ∧ (N ≤ i → j < i → depsB md o j = true ∨ (j < N ∧ lagB o' = true)) := by
  unfold growB at h
  rw [Bool.and_eq_true, Bool.and_eq_true, List.all_eq_true] at h
  have hi := (List.getElem?_eq_some_iff.1 ho).1
  have h := h.2.2 i (List.mem_range.2 hi)
  simp only [ho, Bool.and_eq_true, List.all_eq_true] at h
  obtain ⟨h1, h2, h3, h4⟩ := h
  refine ⟨by simpa using h1, fun d hd => ?_, fun e he hb => ?_, fun j o' hj => ?_⟩
  · rw [hd] at h2; simpa using h2
  · have := h3 e (by simpa using he)
    rw [hb] at this
    simpa using this
  · have h5 := h4 j (List.mem_range.2 (List.getElem?_eq_some_iff.1 hj).1)
    simp only [hj, Bool.and_eq_true] at h5
    obtain ⟨h6, h7, h8⟩ := h5
    refine ⟨fun hne d hd hd' => ?_, fun hdep d hd hm => ?_, fun hN hlt => ?_⟩
    · rcases Bool.or_eq_true_iff.1 h6 with h6 | h6
      · exact hne (by simpa using h6)
      · unfold dstB at h6
        rw [hd, hd'] at h6
        simp at h6
    · rw [hdep, hd] at h7
      simp only [Bool.false_or, Bool.not_eq_true'] at h7
      unfold looksB at h7
      rw [List.any_eq_false] at h7
      exact absurd (h7 _ (by simpa using hm)) (by simp)
    · simp only [Bool.or_eq_true, decide_eq_true_eq, Bool.and_eq_true] at h8
      rcases h8 with h8 | h8 | h8 | h8
      · omega
      · omega
      · exact .inl h8
      · exact .inr h8
theorem depsB_mem {o : Oper} {j : Nat} (h : depsB md o j = true) : ∃ e ∈ o.after, Region.binds md e = true ∧ e.on = j := by
  unfold depsB at h
  rw [List.any_eq_true] at h
  obtain ⟨e, he, h⟩ := h
  rw [Bool.and_eq_true] at h
  exact ⟨e, by simpa using he, h.1, by have := h.2; simp at this; exact this.symm⟩
theorem lag_run {o : Oper} {ρ : Operand → Value} {w : World} {R : Result Next → Prop} (hl : lagB o = true) (h : R ((execOp ρ o).run P w)) (hno : ∀ x w', ¬ R (.halt x w')) :
    ∃ v, R (.ok (.value v) w) ∧ ∀ w', (execOp ρ o).run P w' = .ok (.value v) w' := by
  unfold lagB at hl
  cases hop : o.op with
  | move x => exact ⟨ρ x, by rw [run_move' x hop] at h; exact h, run_move' x hop⟩
  | assign x => exact ⟨ρ x, by rw [run_assign' x hop] at h; exact h, run_assign' x hop⟩
  | extract x k =>
    unfold execOp at h ⊢
    simp only [hop] at h ⊢
    cases hv : ρ x with
    | tuple vs =>
      simp only [hv, Instr.extract] at h ⊢
      cases hk : vs[k]? with
      | some v =>
        simp only [hk] at h ⊢
        exact ⟨v, h, fun w' => rfl⟩
      | none =>
        simp only [hk] at h
        exact absurd h (hno _ _)
    | _ =>
      simp only [hv, Instr.extract] at h
      exact absurd h (hno _ _)
  | _ => rw [hop] at hl; simp at hl
theorem cnt_set : ∀ (n : Nat) (p q : Nat → Bool) (i : Nat), i < n → p i = true → q i = false → (∀ j, j ≠ i → q j = p j) → (List.range n).countP p = (List.range n).countP q + 1
  | 0, _, _, _, h, _, _, _ => absurd h (Nat.not_lt_zero _)
  | n + 1, p, q, i, h, hp, hq, he => by
    rw [List.range_succ, List.countP_append, List.countP_append]
    simp only [List.countP_cons, List.countP_nil]
    by_cases e : i = n
    · subst e
      rw [hp, hq, List.countP_congr (q := q) (fun x hx => by rw [he x (by have := List.mem_range.1 hx; omega)])]
      simp
    · rw [cnt_set n p q i (by omega) hp hq he, he n (fun h => e h.symm)]
      omega
theorem cnt_zero {n : Nat} {p : Nat → Bool} (h : (List.range n).countP p = 0) : ∀ i, i < n → p i = false := fun i hi => by
  rw [List.countP_eq_zero] at h
  simpa using h i (List.mem_range.2 hi)
theorem wpAny_tail {N size : Nat} {l : List Oper} {Q : Exit → Act → World → Prop} (hB : growB md N size l = true) : ∀ (fuel k : Nat) (listed : Array Bool) (b : Act) (w : World), k + fuel = l.length → N ≤ k → listed.size = l.length → (∀ i, i < l.length → listed.getD i false = decide (i < k)) →
    wpList P l.toArray Q (l.drop k) b w → wpAny P md l.toArray Q fuel listed b w
  | 0, k, listed, b, w, hk, hN, hs, hl, h => by
    have : k = l.length := by omega
    subst this
    rw [List.drop_length] at h
    refine ⟨?_, h⟩
    refine List.eq_nil_iff_forall_not_mem.2 fun j hj => ?_
    obtain ⟨h1, o, ho, _⟩ := mem_ready.1 hj
    have hlt : j < l.length := by simpa using (Array.getElem?_eq_some_iff.1 ho).1
    have h2 := hl j hlt
    rw [decide_eq_true hlt] at h2
    rw [Array.getD_eq_getD_getElem?, Array.getElem?_eq_getElem (by omega)] at h1 h2
    simp at h1 h2
    rw [h1] at h2; cases h2
  | fuel + 1, k, listed, b, w, hk, hN, hs, hl, h => by
    have hkl : k < l.length := by omega
    obtain ⟨o, ho⟩ : ∃ o, l[k]? = some o := ⟨_, List.getElem?_eq_getElem hkl⟩
    have hon : l.toArray[k]? = some o := by simpa using ho
    obtain ⟨hg, _, hdep, hall⟩ := growB_spec hB ho
    have hget : ∀ i, i < l.length → ∀ d, listed.getD i d = decide (i < k) := fun i hi d => by
      have := hl i hi
      rw [Array.getD_eq_getD_getElem?, Array.getElem?_eq_getElem (by omega)] at this ⊢
      exact this
    have hdrop : l.drop k = o :: l.drop (k + 1) := by
      rw [List.drop_eq_getElem_cons hkl]
      congr 1
      rw [List.getElem?_eq_getElem hkl] at ho
      exact Option.some.inj ho
    have hready : k ∈ Region.ready md l.toArray listed := by
      rw [mem_ready]
      refine ⟨by rw [hget k hkl]; simp, o, hon, fun e he hb => ?_⟩
      have := hdep e he hb
      rw [hget e.on (by omega)]
      simpa using this
    refine ⟨fun h0 => absurd hready (by rw [h0]; simp), fun j hj => ?_⟩
    have hjk : j = k := by
      obtain ⟨h1, o', ho', h2⟩ := mem_ready.1 hj
      have ho'' : l[j]? = some o' := by simpa using ho'
      have hlt := (List.getElem?_eq_some_iff.1 ho'').1
      rw [hget j hlt] at h1
      have hge : k ≤ j := by simpa using h1
      rcases Nat.lt_or_ge k j with h3 | h3
      · have h4 := ((growB_spec hB ho'').2.2.2 k o ho).2.2 (by omega) h3
        rcases h4 with h4 | h4
        · obtain ⟨e, he, hb, rfl⟩ := depsB_mem h4
          have := h2 e he hb
          rw [hget e.on hkl] at this
          simp at this
        · omega
      · omega
    subst hjk
    rw [hdrop] at h
    have hw : Region.wanted o (yielded l.toArray b.tmps) = true := by simp [Region.wanted, hg]
    simp only [wpList, hw, if_true] at h
    unfold wpOp
    simp only [hon, hw, if_true]
    have hnext : ∀ b' w', wpList P l.toArray Q (l.drop (j + 1)) b' w' → wpAny P md l.toArray Q fuel (listed.setIfInBounds j true) b' w' := fun b' w' h' =>
      wpAny_tail hB fuel (j + 1) _ b' w' (by omega) (by omega) (by simpa using hs) (fun i hi => by
        by_cases e : j = i
        · subst e
          rw [Array.getD_eq_getD_getElem?, Array.getElem?_setIfInBounds_self_of_lt (by omega)]
          simp
        · rw [getD_set_ne false e, hl i hi]
          have : (i < j) ↔ (i < j + 1) := by omega
          simp [this]) h'
    rcases h with h | h
    · exact .inl (Oper.wp_mono hnext h)
    · exact .inr h
theorem wpAny_grow {N : Nat} {l : List Oper} {a : Act} {Q : Exit → Act → World → Prop} {C : World → Prop} {G : World → World → Prop} {F : Nat → Value → World → Prop} (hQ : ∀ c a w, ¬ Q (.panic c) a w) (hB : growB md N a.tmps.size l = true)
    (hst : ∀ w w', C w → G w w' → C w' ∧ ∀ i, i < N → ∀ v, F i v w → F i v w') (hs : stepsL P md l a C G F 0 (l.take N))
    (hf : ∀ vs w', C w' → (∀ i, i < N → F i (vs i) w') → wpList P l.toArray Q (l.drop N) (stL l 0 (fun i => decide (i < N)) vs a) w') :
    ∀ (fuel : Nat) (listed : Array Bool) (w : World) (vs : Nat → Value), (List.range l.length).countP (fun i => !listed.getD i false) = fuel → listed.size = l.length → (∀ i, i < l.length → N ≤ i → listed.getD i false = false) → C w →
      (∀ i, i < N → listed.getD i false = true → F i (vs i) w) → wpAny P md l.toArray Q fuel listed (stL l 0 (fun i => listed.getD i false) vs a) w := by
  have hNl : N ≤ l.length := by
    unfold growB at hB
    simp only [Bool.and_eq_true, decide_eq_true_eq] at hB
    exact hB.2.1
  have hsel : ∀ (j : Nat) (o : Oper) cs b, l.toArray[j]? = some o → o.op ≠ .select cs b := by
    unfold growB at hB
    rw [Bool.and_eq_true] at hB
    exact Region.noSelect_spec hB.1
  intro fuel
  induction fuel with
  | zero =>
    intro listed w vs hc hsz ht hC hF
    have hall := cnt_zero hc
    have hlist : ∀ i, i < l.length → listed.getD i false = true := fun i hi => by simpa using hall i hi
    have hN : N = l.length := by
      rcases Nat.lt_or_ge N l.length with h | h
      · have h1 := ht N h (Nat.le_refl _)
        rw [hlist N h] at h1; cases h1
      · omega
    refine wpAny_tail hB 0 l.length listed _ w rfl (by omega) hsz (fun i hi => by rw [hlist i hi]; simp [hi]) ?_
    have := hf vs w hC (fun i hi => hF i hi (hlist i (by omega)))
    rw [hN] at this
    rw [stL_congr l 0 _ (fun i => decide (i < l.length)) vs vs a (fun i _ hi => ⟨by rw [hlist i (by omega)]; simp; omega, fun _ => rfl⟩)]
    exact this
  | succ fuel ih =>
    intro listed w vs hc hsz ht hC hF
    by_cases hfull : ∀ i, i < N → listed.getD i false = true
    · have hl : ∀ i, i < l.length → listed.getD i false = decide (i < N) := fun i hi => by
        by_cases h : i < N
        · rw [hfull i h]; simp [h]
        · rw [ht i hi (by omega)]; simp; omega
      have hk : N + (fuel + 1) = l.length := by
        have e : (List.range l.length).countP (fun i => !listed.getD i false) = (List.range l.length).countP (fun i => decide (N ≤ i)) := List.countP_congr fun i hi => by
          rw [hl i (List.mem_range.1 hi)]
          simp
        have e2 : ∀ n, (List.range n).countP (fun i => decide (N ≤ i)) = n - N := fun n => by
          induction n with
          | zero => simp
          | succ n ihn =>
            rw [List.range_succ, List.countP_append, ihn]
            by_cases h : N ≤ n
            · simp [h]; omega
            · simp [h]; omega
        rw [e, e2] at hc
        omega
      refine wpAny_tail hB (fuel + 1) N listed _ w hk (Nat.le_refl _) hsz hl ?_
      have := hf vs w hC (fun i hi => hF i hi (hfull i hi))
      rw [stL_congr l 0 _ (fun i => decide (i < N)) vs vs a (fun i _ hi => ⟨hl i (by omega), fun _ => rfl⟩)]
      exact this
    · -- the least one that is not listed can come up
      obtain ⟨m, hmN, hmun, hmin⟩ : ∃ m, m < N ∧ listed.getD m false = false ∧ ∀ i, i < m → listed.getD i false = true := by
        have : ∃ m, m < N ∧ listed.getD m false = false := by
          rcases Classical.not_forall.1 hfull with ⟨m, hm⟩
          rw [Classical.not_imp] at hm
          exact ⟨m, hm.1, by simpa using hm.2⟩
        obtain ⟨m, h1, h2⟩ := this
        clear hfull
        induction m using Nat.strongRecOn with
        | _ m ihm =>
          by_cases h : ∃ i, i < m ∧ listed.getD i false = false
          · obtain ⟨i, hi, hi2⟩ := h
            exact ihm i hi (by omega) hi2
          · refine ⟨m, h1, h2, fun i hi => ?_⟩
            cases hv : listed.getD i false with
            | true => rfl
            | false => exact absurd ⟨i, hi, hv⟩ h
      have hgt : ∀ i, i < l.length → ∀ d, listed.getD i d = listed.getD i false := fun i hi d => by
        rw [Array.getD_eq_getD_getElem?, Array.getD_eq_getD_getElem?, Array.getElem?_eq_getElem (by omega)]
        rfl
      obtain ⟨om, hom⟩ : ∃ o, l[m]? = some o := ⟨_, List.getElem?_eq_getElem (by omega)⟩
      have hready : m ∈ Region.ready md l.toArray listed := by
        rw [mem_ready]
        exact ⟨by rw [hgt m (by omega)]; exact hmun, om, by simpa using hom, fun e he hb => hmin e.on ((growB_spec hB hom).2.2.1 e he hb)⟩
      -- one operation of the first N, done
      have go : ∀ j o v w', j < N → l[j]? = some o → listed.getD j false = false → F j v w' → G w w' → wpAny P md l.toArray Q fuel (listed.setIfInBounds j true) ((stL l 0 (fun i => listed.getD i false) vs a).put o.dst v) w' := by
        intro j o v w' hjN ho h1 hFv hG
        obtain ⟨_, _, _, hall⟩ := growB_spec hB ho
        have hlt := (List.getElem?_eq_some_iff.1 ho).1
        obtain ⟨hC', hst'⟩ := hst w w' hC hG
        have hadd := stL_add l 0 j (fun i => listed.getD i false) vs a o v ho (by rw [Nat.zero_add]; exact h1) (fun i o' hi hne d hd => (hall i o' hi).1 (fun e => hne e.symm) d hd)
        simp only [Nat.zero_add] at hadd
        have hget : ∀ i, (listed.setIfInBounds j true).getD i false = (listed.getD i false || i == j) := fun i => by
          by_cases e : j = i
          · subst e
            rw [Array.getD_eq_getD_getElem?, Array.getElem?_setIfInBounds_self_of_lt (by omega)]
            simp
          · rw [getD_set_ne false e]
            have : (i == j) = false := by simp; exact fun h => e h.symm
            rw [this, Bool.or_false]
        rw [← hadd, ← stL_congr l 0 (fun i => (listed.setIfInBounds j true).getD i false) _ (fun i => if i = j then v else vs i) _ a (fun i _ _ => ⟨hget i, fun _ => rfl⟩)]
        refine ih (listed.setIfInBounds j true) w' (fun i => if i = j then v else vs i) ?_ (by simpa using hsz) (fun i hi hNi => ?_) hC' (fun i hi hl => ?_)
        · have := cnt_set l.length (fun i => !listed.getD i false) (fun i => !(listed.setIfInBounds j true).getD i false) j hlt (by rw [h1]; rfl) (by rw [hget]; simp) (fun i hi => by rw [hget]; simp [hi])
          omega
        · rw [hget, ht i hi hNi]
          simp; omega
        · rw [hget] at hl
          by_cases e : i = j
          · subst e; simpa using hFv
          · rw [if_neg e]
            refine hst' i hi _ (hF i hi ?_)
            have : (i == j) = false := by simp [e]
            rw [this, Bool.or_false] at hl
            exact hl
      have step : ∀ j o, j < N → l[j]? = some o → (∀ e ∈ o.after, Region.binds md e = true → listed.getD e.on false = true) → Alike2 o (stL l 0 (fun i => listed.getD i false) vs a) (stL l 0 (depsB md o) vs a) ∧ wpList P #[o] (fun e c w' => e = .normal ∧ ∃ v, c = (stL l 0 (depsB md o) vs a).put o.dst v ∧ (F j v w' ∧ G w w')) [o] (stL l 0 (depsB md o) vs a) w := by
        intro j o hjN ho h2
        obtain ⟨_, _, hdep, hall⟩ := growB_spec hB ho
        have hdl : ∀ i, depsB md o i = true → listed.getD i false = true := fun i hi => by
          obtain ⟨e, he, hb, rfl⟩ := depsB_mem hi
          exact h2 e he hb
        have hstep := stepsL_at (l.take N) 0 j o hs (by rw [List.getElem?_take, if_pos hjN]; exact ho) vs w hC (fun i hi => hF i (by
          obtain ⟨e, he, hb, rfl⟩ := depsB_mem hi
          have := hdep e he hb
          omega) (hdl i hi))
        rw [Nat.zero_add] at hstep
        refine ⟨stL_alike l 0 _ _ vs a a (fun i o' hi hne d hd => ?_) ⟨rfl, fun _ _ => rfl⟩, hstep⟩
        rw [Nat.zero_add] at hne
        refine (hall i o' hi).2.1 ?_ d hd
        cases hdp : depsB md o i with
        | false => rfl
        | true => rw [hdl i hdp, hdp] at hne; exact absurd rfl hne
      by_cases hlag : ∀ i o, i < N → l[i]? = some o → listed.getD i false = false → lagB o = true
      · -- only such as look at the frame alone are left: the least one is taken first
        obtain ⟨hg, hdst, hdep, hall⟩ := growB_spec hB hom
        have h2 : ∀ e ∈ om.after, Region.binds md e = true → listed.getD e.on false = true := fun e he hb => hmin e.on (hdep e he hb)
        obtain ⟨hal, hstep⟩ := step m om hmN hom h2
        have hsm : ∀ cs b, om.op ≠ .select cs b := fun cs b => hsel m om cs b (by simpa using hom)
        have hw1 : Region.wanted om (yielded #[om] (stL l 0 (depsB md om) vs a).tmps) = true := by simp [Region.wanted, hg]
        simp only [wpList, hw1, if_true] at hstep
        rcases hstep with hstep | ⟨_, _, _, hstep, _⟩
        · unfold Oper.wp at hstep
          obtain ⟨v, hup, hrun⟩ := lag_run (R := fun r => om.upon P (stL l 0 (depsB md om) vs a) _ _ r) (hlag m om hmN hom hmun) hstep (fun x w' hx => by
            cases x with
            | panic v => exact absurd hx.1 (by simp)
            | _ => exact absurd hx (by simp [Oper.upon]))
          obtain ⟨_, v', e, hFv, hG⟩ := hup
          have e2 := put_det (b := stL l 0 (fun i => listed.getD i false) vs a) hal.1 (fun d hd => by rw [stL_size]; exact hdst d hd) e
          have hrun2 : ∀ w', (execOp (stL l 0 (fun i => listed.getD i false) vs a).eval om).run P w' = .ok (.value v) w' := fun w' => by
            rw [execOp_congr om hsm (fun x hx => hal.2 x hx)]; exact hrun w'
          refine wpAny_first (i := m) (oi := om) (v := v) (by simpa using hom) hsel (fun c a w h => absurd h (hQ _ _ _)) fuel listed _ w (fun j oj hj hne hun hno => ?_) hready (.inl ⟨by simp [Region.wanted, hg], hrun2⟩) ?_
          · have hj' : l[j]? = some oj := by simpa using hj
            have hjl := (List.getElem?_eq_some_iff.1 hj').1
            obtain ⟨hgj, _, _, hallj⟩ := growB_spec hB hj'
            have hjm : depsB md oj m = false := by
              cases hdp : depsB md oj m with
              | false => rfl
              | true =>
                obtain ⟨e, he, hb, h⟩ := depsB_mem hdp
                exact absurd h (hno e he hb)
            have hmj : depsB md om j = false := by
              cases hdp : depsB md om j with
              | false => rfl
              | true =>
                obtain ⟨e, he, hb, h⟩ := depsB_mem hdp
                have h3 := h2 e he hb
                rw [h, ← hgt j hjl true, hun] at h3; cases h3
            have looks : ∀ (o : Oper) (d : Tmp), o.guard = none → .tmp d ∉ o.op.operands → d ∉ o.looksAt l.toArray := fun o d hg hn hm => by
              unfold Oper.looksAt at hm
              rw [hg] at hm
              simp only [List.append_nil, List.mem_filterMap] at hm
              obtain ⟨x, hx, hx2⟩ := hm
              cases x with
              | tmp t =>
                simp at hx2
                subst hx2
                exact hn (by simpa using hx)
              | _ => simp at hx2
            unfold Oper.apart
            rw [Bool.and_eq_true]
            refine ⟨?_, ?_⟩
            · cases hd : om.dst with
              | none => rfl
              | some d =>
                simp only [Bool.and_eq_true, Bool.not_eq_true']
                refine ⟨?_, ?_⟩
                · have := looks oj d hgj ((hallj m om hom).2.1 hjm d hd)
                  simpa using this
                · have := (hall j oj hj').1 (fun e => hne e.symm) d hd
                  simpa using this
            · cases hd : oj.dst with
              | none => rfl
              | some d =>
                have := looks om d hg ((hall j oj hj').2.1 hmj d hd)
                simpa using this
          · rw [e2]
            exact go m om v' w hmN hom hmun hFv hG
        · exact absurd hstep (by simp)
      · have hlag2 : ∃ i o, i < N ∧ l[i]? = some o ∧ listed.getD i false = false ∧ lagB o = false := Classical.byContradiction fun hc => hlag fun i o h1 h2 h3 => by
          cases h4 : lagB o with
          | true => rfl
          | false => exact absurd ⟨i, o, h1, h2, h3, h4⟩ hc
        obtain ⟨i0, o0, hi0, ho0, hun0, hl0⟩ := hlag2
        refine ⟨fun h0 => absurd hready (by rw [h0]; simp), fun j hj => ?_⟩
        obtain ⟨h1, o, ho', h2⟩ := mem_ready.1 hj
        have ho : l[j]? = some o := by simpa using ho'
        have hlt := (List.getElem?_eq_some_iff.1 ho).1
        rw [hgt j hlt] at h1
        obtain ⟨hg, hdst, hdep, hall⟩ := growB_spec hB ho
        have hjN : j < N := by
          rcases Nat.lt_or_ge j N with h | h
          · exact h
          · rcases (hall i0 o0 ho0).2.2 h (by omega) with h3 | h3
            · obtain ⟨e, he, hb, rfl⟩ := depsB_mem h3
              rw [h2 e he hb] at hun0; cases hun0
            · rw [hl0] at h3; exact absurd h3.2 (by simp)
        obtain ⟨hal, hstep⟩ := step j o hjN ho h2
        have hw : Region.wanted o (yielded l.toArray (stL l 0 (fun i => listed.getD i false) vs a).tmps) = true := by simp [Region.wanted, hg]
        unfold wpOp
        simp only [ho', hw, if_true]
        left
        exact wp_move_frame hg (fun cs b => hsel j o cs b ho') hal (fun d hd => by rw [stL_size]; exact hdst d hd) hstep (fun v w' h => go j o v w' hjN ho h1 h.1 h.2)
end
theorem wp_region_grow {P : Program} {id : Nat} {Q : Exit → Act → World → Prop} {a : Act} {w : World} {l : List Oper} (N : Nat) (C : World → Prop) (G : World → World → Prop) (F : Nat → Value → World → Prop) (hm : P.follows .mixedOrders = true) (hB : growB .any N a.tmps.size l = true)
    (hC : C w.drew) (hst : ∀ w w', C w → G w w' → C w' ∧ ∀ i, i < N → ∀ v, F i v w → F i v w') (hs : stepsL P .any l a C G F 0 (l.take N))
    (hf : ∀ vs w', C w' → (∀ i, i < N → F i (vs i) w') → wpList P l.toArray (fun e b w => e = .normal ∧ Q .normal b w) (l.drop N) (stL l 0 (fun i => decide (i < N)) vs a) w') : (Code.region id l.toArray true).wp P Q a w := by
  refine Code.wp_mono (Q := fun e b w => e = .normal ∧ Q .normal b w) (fun e b w h => by obtain ⟨rfl, h⟩ := h; exact h) ?_
  refine wp_region_any hm ?_
  have h0 : stL l 0 (fun i => (Array.replicate l.toArray.size false).getD i false) (fun _ => undef) a = a := by
    rw [stL_congr l 0 _ (fun _ => false) (fun _ => undef) (fun _ => undef) a (fun i _ hi => ⟨by simp [Array.getD_eq_getD_getElem?, Array.getElem?_replicate]; split <;> rfl, fun _ => rfl⟩)]
    exact stL_none _ _ _ _
  have := wpAny_grow (Q := fun e b w => e = .normal ∧ Q .normal b w) (C := C) (G := G) (F := F) (fun c a w h => absurd h.1 (by simp)) hB hst hs hf l.toArray.size (Array.replicate l.toArray.size false) w.drew (fun _ => undef) (by
    rw [List.countP_eq_length.2 (fun i hi => by simp [Array.getD_eq_getD_getElem?, Array.getElem?_replicate]; split <;> rfl)]
    simp) (by simp) (fun i hi _ => by simp [Array.getD_eq_getD_getElem?, Array.getElem?_replicate]; split <;> rfl) hC (fun i _ h => by
      simp [Array.getD_eq_getD_getElem?, Array.getElem?_replicate] at h
      split at h <;> simp at h)
  rw [h0] at this
  exact this
end Go.Proofs.Ytmdfgidejdiiiaa
