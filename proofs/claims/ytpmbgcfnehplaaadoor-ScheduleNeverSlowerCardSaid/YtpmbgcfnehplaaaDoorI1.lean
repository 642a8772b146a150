/- Rows of the call's own with blocks of their own, each of which grows. -/
import Derived.Test.YtpmbgcfnehplaaaDoorPr
import Derived.Maps.AppendAt
import Derived.Deep.RegionHeld3
set_option linter.unusedVariables false
set_option linter.unusedSimpArgs false
namespace Go.Proofs.YtpmbgcfnehplaaaDoor
open Go.RowKit

/-- As OwnL, the rows' blocks pairwise different. -/
def OwnD (base : Nat) (w : World) (g m : Nat) (ll : List (List Int)) : Prop :=
  ∃ vs : List Value, w.ownsRow base 22 1 (.slice (some ⟨g, 0, none⟩) m m) m vs ∧ vs.length = ll.length ∧ ll.length = m ∧ base ≤ g ∧ (∀ (k : Nat) v l, vs[k]? = some v → ll[k]? = some l → Own (g + 1) w v l) ∧
    (∀ (j k : Nat) u v, j ≠ k → vs[j]? = some u → vs[k]? = some v → u.ownBlock = none ∨ u.ownBlock ≠ v.ownBlock)
theorem OwnD.own {base : Nat} {w : World} {g m : Nat} {ll : List (List Int)} (h : OwnD base w g m ll) : OwnL base w g m ll := by
  obtain ⟨vs, h1, h2, h3, h4, h5, _⟩ := h
  exact ⟨vs, h1, h2, h3, h4, h5⟩
/-- make([][]int, n). -/
theorem mk_intD {ops : Array Oper} {rest : List Oper} {o : Oper} {a : Act} {Q : Exit → Act → World → Prop} {w : World} (hg : o.guard = none) (s c : Operand) (hop : o.op = Op.makeSlice 65 s c)
    (n : Nat) {N : Int} (hs : a.eval s = .int .i64 N) (hc : a.eval c = .int .i64 N) (hN : N = (n : Int)) (hn : n ≤ 100000000)
    (h : ∀ w', OwnD w.heap.size w' w.heap.size n (List.replicate n []) → Below w.heap.size w w' → wpList Tryd.prog ops Q rest (a.put o.dst (.slice (some ⟨w.heap.size, 0, none⟩) n n)) w') :
    wpList Tryd.prog ops Q (o :: rest) a w := by
  subst hN
  obtain ⟨i0, hi, hz0, hz1, hz2⟩ := info_parts info_ints
  refine wpList_make_full w hg s c 65 hop w.heap.size 22 i0 (.slice none 0 0) 1 Tryd.underlying65 hi hz0 hz1 .i64 .i64 n n n hs hc rfl rfl (by rw [hz2]; omega) (by unfold maxLen; omega) (Nat.le_refl _) fun w' h1 h2 => h w' ⟨_, h1, ?_, by simp, Nat.le_refl _, ?_, ?_⟩ ?_
  · simp [size_madeCells]
  · intro k v l hv hl
    rw [List.getElem?_replicate] at hl
    split at hl
    · injection hl with hl
      subst hl
      have : v = .slice none 0 0 := by
        have hc1 : (Value.slice none 0 0).cells = #[.slice none 0 0] := rfl
        rw [hc1, toList_madeCells_one] at hv
        exact List.eq_of_mem_replicate (List.mem_of_getElem? hv)
      subst this
      exact Own.nil
    · cases hl
  · intro j k u v _ hu _
    have hc1 : (Value.slice none 0 0).cells = #[.slice none 0 0] := rfl
    rw [hc1, toList_madeCells_one] at hu
    rw [List.eq_of_mem_replicate (List.mem_of_getElem? hu)]
    exact .inl rfl
  · exact (Below.refl _ _).grown h2 (Nat.le_refl _) (by intro k hk; cases hk)
/-- Behind the append to row a, ahead of the store. -/
def Mid (base : Nat) (w : World) (g m : Nat) (ll : List (List Int)) (a : Nat) (v' : Value) (l' : List Int) : Prop :=
  ∃ vs : List Value, w.ownsRow base 22 1 (.slice (some ⟨g, 0, none⟩) m m) m vs ∧ vs.length = ll.length ∧ ll.length = m ∧ base ≤ g ∧ (∀ (k : Nat) v l, k ≠ a → vs[k]? = some v → ll[k]? = some l → Own (g + 1) w v l) ∧
    (∀ (j k : Nat) u v, j ≠ k → vs[j]? = some u → vs[k]? = some v → u.ownBlock = none ∨ u.ownBlock ≠ v.ownBlock) ∧ Own (g + 1) w v' l' ∧
    (∀ (j : Nat) u, j ≠ a → vs[j]? = some u → (u.ownBlock = none ∨ u.ownBlock ≠ v'.ownBlock) ∧ (v'.ownBlock = none ∨ v'.ownBlock ≠ u.ownBlock))
theorem Mid.form {base : Nat} {w : World} {g m : Nat} {ll : List (List Int)} {a : Nat} {v' : Value} {l' : List Int} (h : Mid base w g m ll a v' l') : ∃ B c, v' = .slice B l'.length c := by
  obtain ⟨vs, _, _, _, _, _, _, ho, _⟩ := h
  obtain ⟨B, c, e, _⟩ := ho.form
  exact ⟨B, c, e⟩
theorem Mid.free {base : Nat} {w : World} {g m : Nat} {ll : List (List Int)} {a : Nat} {v' : Value} {l' : List Int} (h : Mid base w g m ll a v' l') (k : Nat) : w.frozen? ⟨g, k, none⟩ = false := by
  obtain ⟨vs, h1, _⟩ := h
  exact h1.frozenAt k
theorem Mid.cell {base : Nat} {w : World} {g m : Nat} {ll : List (List Int)} {a : Nat} {v' : Value} {l' : List Int} (h : Mid base w g m ll a v' l') {k : Nat} (hk : k < m) : ∃ v, w.cell? ⟨g, k, none⟩ = some v := by
  obtain ⟨vs, h1, h2, h3, _⟩ := h
  exact ⟨vs[k], by rw [h1.cellAt k (by omega), List.getElem?_eq_getElem]⟩
theorem Mid.set {base : Nat} {w : World} {g m : Nat} {ll : List (List Int)} {a : Nat} {v' : Value} {l' : List Int} (h : Mid base w g m ll a v' l') : OwnD base (w.setCell ⟨g, a, none⟩ v') g m (ll.set a l') := by
  obtain ⟨vs, h1, h2, h3, h4, h5, h6, h7, h8⟩ := h
  refine ⟨vs.set a v', (h1.stored a v').1, by simp [h2], by simp [h3], h4, fun j u q hu hq => ?_, fun j k u v hne hu hv => ?_⟩
  · rw [List.getElem?_set] at hu hq
    by_cases e : a = j
    · rw [if_pos e] at hu hq
      split at hu
      · split at hq
        · injection hu with hu; injection hq with hq; subst hu; subst hq; exact h7.store (by omega)
        · cases hq
      · cases hu
    · rw [if_neg e] at hu hq
      exact (h5 j u q (fun hc => e hc.symm) hu hq).store (by omega)
  · rw [List.getElem?_set] at hu hv
    by_cases e1 : a = j
    · have e2 : a ≠ k := fun hc => hne (e1.symm.trans hc)
      rw [if_pos e1] at hu
      rw [if_neg e2] at hv
      split at hu
      · injection hu with hu; subst hu
        exact (h8 k v (fun hc => e2 hc.symm) hv).2
      · cases hu
    · rw [if_neg e1] at hu
      by_cases e2 : a = k
      · rw [if_pos e2] at hv
        split at hv
        · injection hv with hv; subst hv
          exact (h8 j u (fun hc => e1 hc.symm) hu).1
        · cases hv
      · rw [if_neg e2] at hv
        exact h6 j k u v hne hu hv
/-- The append to row a. -/
theorem step_app_row {ops : Array Oper} {o : Oper} {act : Act} {K : Act → World → Prop} {Q : Exit → Act → World → Prop} {E : Prop} (W : World) {W1 : World} (hgd : o.guard = none) (s x : Operand)
    (ho : o.op = .call { callee := .builtin .append, args := #[s, x], argTypes := #[22, 22] }) (base : Nat) {g m a : Nat} {ll : List (List Int)} {l : List Int} {v : Value} {y : Int} (hD : OwnD base W g m ll) (ha : ll[a]? = some l)
    (hcell : W.cell? ⟨g, a, none⟩ = some v) (hW : W1 = W.alloc (.cells #[.int .i64 y] 3)) (hs : act.eval s = v)
    (hx : act.eval x = .slice (some ⟨W.heap.size, 0, none⟩) 1 1) (hn : l.length < 100000000) (hbase : base ≤ W.heap.size) (hy : I64 y)
    (h : ∀ v' w', Mid base w' g m ll a v' (l ++ [y]) → w'.cell? ⟨g, a, none⟩ = some v → Below base W w' → K (act.put o.dst v') w') :
    if Region.wanted o (yielded ops act.tmps) = true then Oper.wp Tryd.prog o act W1 K Q else E := by
  have hw : Region.wanted o (yielded ops act.tmps) = true := by simp [Region.wanted, hgd]
  rw [if_pos hw]
  subst hW
  obtain ⟨i0, hi, hz0, hz1, hz2⟩ := info_parts info_int
  obtain ⟨vs, h1, h2, h3, h4, h5, h6⟩ := hD
  have hal := (List.getElem?_eq_some_iff.1 ha).1
  have hva : vs[a]? = some v := by rw [← h1.cellAt a (by omega)]; exact hcell
  have hown := h5 a v l hva ha
  have hgl := h1.lt g rfl
  obtain ⟨v', w', hrun, r1, r2, _, r3⟩ := run_append_own_at (P := Tryd.prog) (W.alloc (.cells #[.int .i64 y] 3)) (g + 1) 22 o.type 3 i0 (.int .i64 0) 1 8 Tryd.underlying22 hi hz0 hz1 hz2 rfl (by decide) v l.length (l.map (Value.int .i64))
    (hown.1.alloc _) ⟨W.heap.size, 0, none⟩ 1 1 [.int .i64 y] rfl (by
      intro j q hj
      match j, hj with
      | 0, hj => simp at hj; subst hj; simp [Addr.add]) (by intro q hq; simp at hq; subst hq; rfl) (by unfold maxLen; omega) (by omega) (by simp; omega)
  unfold Oper.wp execOp
  simp only [ho, resolve, invoke, builtin, Sem.run_bind, Sem.run_pure, Result.andThen_ok, List.map_toArray, List.map_cons, List.map_nil, hs, hx, hrun]
  have hvb : ∀ b, v.ownBlock = some b → g + 1 ≤ b ∧ b < W.heap.size := hown.1.lt
  have hout : w'.ownsRow base 22 1 (.slice (some ⟨g, 0, none⟩) m m) m vs := by
    refine (h1.alloc _).kept r2 (.inr ?_)
    intro hc
    have := hvb g hc.symm
    omega
  refine h v' w' ⟨vs, hout, h2, h3, h4, fun k u q hk hu hq => ?_, h6, ⟨by simpa using r1, fun q hq => ?_⟩, fun j u hj hu => ?_⟩ (by rw [hout.cellAt a (by omega)]; exact hva) ?_
  · have hu0 := h5 k u q hu hq
    exact ⟨(hu0.1.alloc _).kept r2 (h6 k a u v hk hu hva), hu0.2⟩
  · rcases List.mem_append.1 hq with hq | hq
    · exact hown.2 q hq
    · simp at hq; subst hq; exact hy
  · have d1 := h6 j a u v hj hu hva
    have d2 := h6 a j v u (fun hc => hj hc.symm) hva hu
    have hjl : j < ll.length := by have := (List.getElem?_eq_some_iff.1 hu).1; omega
    have hub : ∀ b, u.ownBlock = some b → b < W.heap.size := fun b hb => ((h5 j u ll[j] hu (List.getElem?_eq_getElem hjl)).1.lt b hb).2
    rcases r3 with r3 | r3
    · rw [r3]; exact ⟨d1, d2⟩
    · rw [r3]
      have hne : u.ownBlock ≠ some (W.alloc (.cells #[.int .i64 y] 3)).heap.size := fun hc => by
        have := hub _ hc
        simp at this
        omega
      exact ⟨.inr hne, .inr (fun hc => hne hc.symm)⟩
  · exact ((Below.refl base W).alloc hbase _).grown r2 (by simp; omega) (fun b hb => by have := (hvb b hb).1; omega)
/-- The same for a region in the text's order. -/
theorem app_rowD {ops : Array Oper} {rest : List Oper} {o : Oper} {act : Act} {Q : Exit → Act → World → Prop} (W : World) {W1 : World} (hgd : o.guard = none) (s x : Operand)
    (ho : o.op = .call { callee := .builtin .append, args := #[s, x], argTypes := #[22, 22] }) (base : Nat) {g m a : Nat} {ll : List (List Int)} {l : List Int} {v : Value} {y : Int} (hD : OwnD base W g m ll) (ha : ll[a]? = some l)
    (hcell : W.cell? ⟨g, a, none⟩ = some v) (hW : W1 = W.alloc (.cells #[.int .i64 y] 3)) (hs : act.eval s = v)
    (hx : act.eval x = .slice (some ⟨W.heap.size, 0, none⟩) 1 1) (hn : l.length < 100000000) (hbase : base ≤ W.heap.size) (hy : I64 y)
    (h : ∀ v' w', Mid base w' g m ll a v' (l ++ [y]) → w'.cell? ⟨g, a, none⟩ = some v → Below base W w' → wpList Tryd.prog ops Q rest (act.put o.dst v') w') :
    wpList Tryd.prog ops Q (o :: rest) act W1 := by
  unfold wpList
  have hw : Region.wanted o (yielded ops act.tmps) = true := by simp [Region.wanted, hgd]
  have := step_app_row (ops := ops) (Q := Q) (E := True) (K := fun a w => wpList Tryd.prog ops Q rest a w) W hgd s x ho base hD ha hcell hW hs hx hn hbase hy h
  rw [if_pos hw] at this ⊢
  exact .inl this
theorem OwnD.grow {base : Nat} {w w' : World} {g m : Nat} {ll : List (List Int)} (h : OwnD base w g m ll) (hb : Below w.heap.size w w') : OwnD base w' g m ll := by
  obtain ⟨vs, h1, h2, h3, h4, h5, h6⟩ := h
  exact ⟨vs, own_grow h1 hb, h2, h3, h4, fun k v l hv hl => (h5 k v l hv hl).grow hb, h6⟩
end Go.Proofs.YtpmbgcfnehplaaaDoor
