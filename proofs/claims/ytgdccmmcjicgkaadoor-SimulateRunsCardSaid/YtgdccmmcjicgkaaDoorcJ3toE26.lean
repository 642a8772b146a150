/- Several texts in one: J3 E19 E21 E31 E26. -/
import Derived.Test.YtgdccmmcjicgkaaDoorcJ
import Derived.Test.YtgdccmmcjicgkaaDoorcE23toE18
import Derived.OwnWalk
import Derived.Test.YtgdccmmcjicgkaaDoorcE15toC
import Derived.DeepKeys4
import Derived.WideKeyEntry
import Derived.Test.YtgdccmmcjicgkaaDoorcV1toU3
import Derived.Carry
import Derived.Test.YtgdccmmcjicgkaaDoorcE1toI0
set_option linter.unusedVariables false
set_option linter.unusedSimpArgs false
section
namespace Go.Proofs.YtgdccmmcjicgkaaDoor
open Go.RowKit
section
variable {P : Program} {md : Region.Mode}
def Prior (F : Nat → Value → World → Prop) (G : Nat → Value → World → World → Prop) (i j : Nat) (u v : Value) : Prop := ∃ w w', F i u w ∧ G j v w w'
def stepsL3 (P : Program) (md : Region.Mode) (ops : List Oper) (a : Act) (C : World → Prop) (G : Nat → Value → World → World → Prop) (F : Nat → Value → World → Prop) : Nat → List Oper → Prop
  | _, [] => True
  | k, o :: l => (∀ vs w, C w → (∀ i, depsB md o i = true → F i (vs i) w) → (∀ i j, depsB md o i = true → depsB md o j = true → i ≠ j → Prior F G i j (vs i) (vs j) ∨ Prior F G j i (vs j) (vs i)) → wpList P #[o] (fun e c w' => e = .normal ∧ ∃ v, c = (stL ops 0 (depsB md o) vs a).put o.dst v ∧ (F k v w' ∧ G k v w w')) [o] (stL ops 0 (depsB md o) vs a) w) ∧ stepsL3 P md ops a C G F (k + 1) l
theorem stepsL3_at {ops : List Oper} {a : Act} {C : World → Prop} {G : Nat → Value → World → World → Prop} {F : Nat → Value → World → Prop} : ∀ (l : List Oper) (k j : Nat) (o : Oper), stepsL3 P md ops a C G F k l → l[j]? = some o →
    ∀ vs w, C w → (∀ i, depsB md o i = true → F i (vs i) w) → (∀ i j, depsB md o i = true → depsB md o j = true → i ≠ j → Prior F G i j (vs i) (vs j) ∨ Prior F G j i (vs j) (vs i)) → wpList P #[o] (fun e c w' => e = .normal ∧ ∃ v, c = (stL ops 0 (depsB md o) vs a).put o.dst v ∧ (F (k + j) v w' ∧ G (k + j) v w w')) [o] (stL ops 0 (depsB md o) vs a) w
  | [], _, _, _, _, h => by simp at h
  | o :: l, k, 0, o', hs, h => by
    simp only [List.getElem?_cons_zero, Option.some.injEq] at h
    subst h
    exact hs.1
  | o :: l, k, j + 1, o', hs, h => by
    rw [show k + (j + 1) = k + 1 + j by omega]
    exact stepsL3_at l (k + 1) j o' hs.2 (by simpa using h)
theorem wpAny_grow3 {N : Nat} {l : List Oper} {a : Act} {Q : Exit → Act → World → Prop} {C : World → Prop} {G : Nat → Value → World → World → Prop} {F : Nat → Value → World → Prop} (hQ : ∀ c a w, ¬ Q (.panic c) a w) (hB : growB md N a.tmps.size l = true)
    (hst : ∀ j x w w', C w → G j x w w' → C w' ∧ ∀ i, i < N → ∀ v, F i v w → F i v w') (hs : stepsL3 P md l a C G F 0 (l.take N))
    (hf : ∀ vs w', C w' → (∀ i, i < N → F i (vs i) w') → (∀ i j, i < N → j < N → i ≠ j → Prior F G i j (vs i) (vs j) ∨ Prior F G j i (vs j) (vs i)) → wpList P l.toArray Q (l.drop N) (stL l 0 (fun i => decide (i < N)) vs a) w') :
    ∀ (fuel : Nat) (listed : Array Bool) (w : World) (vs : Nat → Value), (List.range l.length).countP (fun i => !listed.getD i false) = fuel → listed.size = l.length → (∀ i, i < l.length → N ≤ i → listed.getD i false = false) → C w →
      (∀ i, i < N → listed.getD i false = true → F i (vs i) w) → (∀ i j, i < N → j < N → i ≠ j → listed.getD i false = true → listed.getD j false = true → Prior F G i j (vs i) (vs j) ∨ Prior F G j i (vs j) (vs i)) → wpAny P md l.toArray Q fuel listed (stL l 0 (fun i => listed.getD i false) vs a) w := by
  have hNl : N ≤ l.length := by
    unfold growB at hB
    simp only [Bool.and_eq_true, decide_eq_true_eq] at hB
    exact hB.2.1
  have hsel : ∀ (j : Nat) (o : Oper) cs b, l.toArray[j]? = some o → o.op ≠ .select cs b := by
    unfold growB at hB
    rw [Bool.and_eq_true] at hB
    exact Region.noSelect_spec hB.1
  intro fuel
  induction fuel with
  | zero =>
    intro listed w vs hc hsz ht hC hF hP
    have hall := cnt_zero hc
    have hlist : ∀ i, i < l.length → listed.getD i false = true := fun i hi => by simpa using hall i hi
    have hN : N = l.length := by
      rcases Nat.lt_or_ge N l.length with h | h
      · have h1 := ht N h (Nat.le_refl _)
        rw [hlist N h] at h1; cases h1
      · omega
    refine wpAny_tail hB 0 l.length listed _ w rfl (by omega) hsz (fun i hi => by rw [hlist i hi]; simp [hi]) ?_
    have := hf vs w hC (fun i hi => hF i hi (hlist i (by omega))) (fun i j hi hj hn => hP i j hi hj hn (hlist i (by omega)) (hlist j (by omega)))
    rw [hN] at this
    rw [stL_congr l 0 _ (fun i => decide (i < l.length)) vs vs a (fun i _ hi => ⟨by rw [hlist i (by omega)]; simp; omega, fun _ => rfl⟩)]
    exact this
  | succ fuel ih =>
    intro listed w vs hc hsz ht hC hF hP
    by_cases hfull : ∀ i, i < N → listed.getD i false = true
    · have hl : ∀ i, i < l.length → listed.getD i false = decide (i < N) := fun i hi => by
        by_cases h : i < N
        · rw [hfull i h]; simp [h]
        · rw [ht i hi (by omega)]; simp; omega
      have hk : N + (fuel + 1) = l.length := by
        have e : (List.range l.length).countP (fun i => !listed.getD i false) = (List.range l.length).countP (fun i => decide (N ≤ i)) := List.countP_congr fun i hi => by
          rw [hl i (List.mem_range.1 hi)]
          simp
        have e2 : ∀ n, (List.range n).countP (fun i => decide (N ≤ i)) = n - N := fun n => by
          induction n with
          | zero => simp
          | succ n ihn =>
            rw [List.range_succ, List.countP_append, ihn]
            by_cases h : N ≤ n
            · simp [h]; omega
            · simp [h]; omega
        rw [e, e2] at hc
        omega
      refine wpAny_tail hB (fuel + 1) N listed _ w hk (Nat.le_refl _) hsz hl ?_
      have := hf vs w hC (fun i hi => hF i hi (hfull i hi)) (fun i j hi hj hn => hP i j hi hj hn (hfull i hi) (hfull j hj))
      rw [stL_congr l 0 _ (fun i => decide (i < N)) vs vs a (fun i _ hi => ⟨hl i (by omega), fun _ => rfl⟩)]
      exact this
    · -- the least one that is not listed can come up
      obtain ⟨m, hmN, hmun, hmin⟩ : ∃ m, m < N ∧ listed.getD m false = false ∧ ∀ i, i < m → listed.getD i false = true := by
        have : ∃ m, m < N ∧ listed.getD m false = false := by
          rcases Classical.not_forall.1 hfull with ⟨m, hm⟩
          rw [Classical.not_imp] at hm
          exact ⟨m, hm.1, by simpa using hm.2⟩
        obtain ⟨m, h1, h2⟩ := this
        clear hfull
        induction m using Nat.strongRecOn with
        | _ m ihm =>
          by_cases h : ∃ i, i < m ∧ listed.getD i false = false
          · obtain ⟨i, hi, hi2⟩ := h
            exact ihm i hi (by omega) hi2
          · refine ⟨m, h1, h2, fun i hi => ?_⟩
            cases hv : listed.getD i false with
            | true => rfl
            | false => exact absurd ⟨i, hi, hv⟩ h
      have hgt : ∀ i, i < l.length → ∀ d, listed.getD i d = listed.getD i false := fun i hi d => by
        rw [Array.getD_eq_getD_getElem?, Array.getD_eq_getD_getElem?, Array.getElem?_eq_getElem (by omega)]
        rfl
      obtain ⟨om, hom⟩ : ∃ o, l[m]? = some o := ⟨_, List.getElem?_eq_getElem (by omega)⟩
      have hready : m ∈ Region.ready md l.toArray listed := by
        rw [mem_ready]
        exact ⟨by rw [hgt m (by omega)]; exact hmun, om, by simpa using hom, fun e he hb => hmin e.on ((growB_spec hB hom).2.2.1 e he hb)⟩
      -- one operation of the first N, done
      have go : ∀ j o v w', j < N → l[j]? = some o → listed.getD j false = false → F j v w' → G j v w w' → wpAny P md l.toArray Q fuel (listed.setIfInBounds j true) ((stL l 0 (fun i => listed.getD i false) vs a).put o.dst v) w' := by
        intro j o v w' hjN ho h1 hFv hG
        obtain ⟨_, _, _, hall⟩ := growB_spec hB ho
        have hlt := (List.getElem?_eq_some_iff.1 ho).1
        obtain ⟨hC', hst'⟩ := hst j v w w' hC hG
        have hadd := stL_add l 0 j (fun i => listed.getD i false) vs a o v ho (by rw [Nat.zero_add]; exact h1) (fun i o' hi hne d hd => (hall i o' hi).1 (fun e => hne e.symm) d hd)
        simp only [Nat.zero_add] at hadd
        have hget : ∀ i, (listed.setIfInBounds j true).getD i false = (listed.getD i false || i == j) := fun i => by
          by_cases e : j = i
          · subst e
            rw [Array.getD_eq_getD_getElem?, Array.getElem?_setIfInBounds_self_of_lt (by omega)]
            simp
          · rw [getD_set_ne false e]
            have : (i == j) = false := by simp; exact fun h => e h.symm
            rw [this, Bool.or_false]
        rw [← hadd, ← stL_congr l 0 (fun i => (listed.setIfInBounds j true).getD i false) _ (fun i => if i = j then v else vs i) _ a (fun i _ _ => ⟨hget i, fun _ => rfl⟩)]
        refine ih (listed.setIfInBounds j true) w' (fun i => if i = j then v else vs i) ?_ (by simpa using hsz) (fun i hi hNi => ?_) hC' (fun i hi hl => ?_) (fun i i' hi hi' hne hl hl' => ?_)
        · have := cnt_set l.length (fun i => !listed.getD i false) (fun i => !(listed.setIfInBounds j true).getD i false) j hlt (by rw [h1]; rfl) (by rw [hget]; simp) (fun i hi => by rw [hget]; simp [hi])
          omega
        · rw [hget, ht i hi hNi]
          simp; omega
        · rw [hget] at hl
          by_cases e : i = j
          · subst e; simpa using hFv
          · rw [if_neg e]
            refine hst' i hi _ (hF i hi ?_)
            have : (i == j) = false := by simp [e]
            rw [this, Bool.or_false] at hl
            exact hl
        · rw [hget] at hl hl'
          by_cases e : i = j
          · subst e
            have e' : (i' == i) = false := by simp; exact fun h => hne h.symm
            rw [e', Bool.or_false] at hl'
            have e2 : ¬ i' = i := fun h => hne h.symm
            simp only [if_true, e2, if_false]
            exact .inr ⟨w, w', hF i' hi' hl', hG⟩
          · have e1 : (i == j) = false := by simp; exact e
            rw [e1, Bool.or_false] at hl
            by_cases e' : i' = j
            · subst e'
              simp only [if_true, e, if_false]
              exact .inl ⟨w, w', hF i hi hl, hG⟩
            · have e2 : (i' == j) = false := by simp; exact e'
              rw [e2, Bool.or_false] at hl'
              simp only [e, e', if_false]
              exact hP i i' hi hi' hne hl hl'
      have step : ∀ j o, j < N → l[j]? = some o → (∀ e ∈ o.after, Region.binds md e = true → listed.getD e.on false = true) → Alike2 o (stL l 0 (fun i => listed.getD i false) vs a) (stL l 0 (depsB md o) vs a) ∧ wpList P #[o] (fun e c w' => e = .normal ∧ ∃ v, c = (stL l 0 (depsB md o) vs a).put o.dst v ∧ (F j v w' ∧ G j v w w')) [o] (stL l 0 (depsB md o) vs a) w := by
        intro j o hjN ho h2
        obtain ⟨_, _, hdep, hall⟩ := growB_spec hB ho
        have hdl : ∀ i, depsB md o i = true → listed.getD i false = true := fun i hi => by
          obtain ⟨e, he, hb, rfl⟩ := depsB_mem hi
          exact h2 e he hb
        have hdN : ∀ i, depsB md o i = true → i < N := fun i hi => by
          obtain ⟨e, he, hb, rfl⟩ := depsB_mem hi
          have := hdep e he hb
          omega
        have hstep := stepsL3_at (l.take N) 0 j o hs (by rw [List.getElem?_take, if_pos hjN]; exact ho) vs w hC (fun i hi => hF i (hdN i hi) (hdl i hi)) (fun i i' hi hi' hne => hP i i' (hdN i hi) (hdN i' hi') hne (hdl i hi) (hdl i' hi'))
        rw [Nat.zero_add] at hstep
        refine ⟨stL_alike l 0 _ _ vs a a (fun i o' hi hne d hd => ?_) ⟨rfl, fun _ _ => rfl⟩, hstep⟩
        rw [Nat.zero_add] at hne
        refine (hall i o' hi).2.1 ?_ d hd
        cases hdp : depsB md o i with
        | false => rfl
        | true => rw [hdl i hdp, hdp] at hne; exact absurd rfl hne
      by_cases hlag : ∀ i o, i < N → l[i]? = some o → listed.getD i false = false → lagB o = true
      · -- only such as look at the frame alone are left: the least one is taken first
        obtain ⟨hg, hdst, hdep, hall⟩ := growB_spec hB hom
        have h2 : ∀ e ∈ om.after, Region.binds md e = true → listed.getD e.on false = true := fun e he hb => hmin e.on (hdep e he hb)
        obtain ⟨hal, hstep⟩ := step m om hmN hom h2
        have hsm : ∀ cs b, om.op ≠ .select cs b := fun cs b => hsel m om cs b (by simpa using hom)
        have hw1 : Region.wanted om (yielded #[om] (stL l 0 (depsB md om) vs a).tmps) = true := by simp [Region.wanted, hg]
        simp only [wpList, hw1, if_true] at hstep
        rcases hstep with hstep | ⟨_, _, _, hstep, _⟩
        · unfold Oper.wp at hstep
          obtain ⟨v, hup, hrun⟩ := lag_run (R := fun r => om.upon P (stL l 0 (depsB md om) vs a) _ _ r) (hlag m om hmN hom hmun) hstep (fun x w' hx => by
            cases x with
            | panic v => exact absurd hx.1 (by simp)
            | _ => exact absurd hx (by simp [Oper.upon]))
          obtain ⟨_, v', e, hFv, hG⟩ := hup
          have e2 := put_det (b := stL l 0 (fun i => listed.getD i false) vs a) hal.1 (fun d hd => by rw [stL_size]; exact hdst d hd) e
          have hrun2 : ∀ w', (execOp (stL l 0 (fun i => listed.getD i false) vs a).eval om).run P w' = .ok (.value v) w' := fun w' => by
            rw [execOp_congr om hsm (fun x hx => hal.2 x hx)]; exact hrun w'
          refine wpAny_first (i := m) (oi := om) (v := v) (by simpa using hom) hsel (fun c a w h => absurd h (hQ _ _ _)) fuel listed _ w (fun j oj hj hne hun hno => ?_) hready (.inl ⟨by simp [Region.wanted, hg], hrun2⟩) ?_
          · have hj' : l[j]? = some oj := by simpa using hj
            have hjl := (List.getElem?_eq_some_iff.1 hj').1
            obtain ⟨hgj, _, _, hallj⟩ := growB_spec hB hj'
            have hjm : depsB md oj m = false := by
              cases hdp : depsB md oj m with
              | false => rfl
              | true =>
                obtain ⟨e, he, hb, h⟩ := depsB_mem hdp
                exact absurd h (hno e he hb)
            have hmj : depsB md om j = false := by
              cases hdp : depsB md om j with
              | false => rfl
              | true =>
                obtain ⟨e, he, hb, h⟩ := depsB_mem hdp
                have h3 := h2 e he hb
                rw [h, ← hgt j hjl true, hun] at h3; cases h3
            have looks : ∀ (o : Oper) (d : Tmp), o.guard = none → .tmp d ∉ o.op.operands → d ∉ o.looksAt l.toArray := fun o d hg hn hm => by
              unfold Oper.looksAt at hm
              rw [hg] at hm
              simp only [List.append_nil, List.mem_filterMap] at hm
              obtain ⟨x, hx, hx2⟩ := hm
              cases x with
              | tmp t =>
                simp at hx2
                subst hx2
                exact hn (by simpa using hx)
              | _ => simp at hx2
            unfold Oper.apart
            rw [Bool.and_eq_true]
            refine ⟨?_, ?_⟩
            · cases hd : om.dst with
              | none => rfl
              | some d =>
                simp only [Bool.and_eq_true, Bool.not_eq_true']
                refine ⟨?_, ?_⟩
                · have := looks oj d hgj ((hallj m om hom).2.1 hjm d hd)
                  simpa using this
                · have := (hall j oj hj').1 (fun e => hne e.symm) d hd
                  simpa using this
            · cases hd : oj.dst with
              | none => rfl
              | some d =>
                have := looks om d hg ((hall j oj hj').2.1 hmj d hd)
                simpa using this
          · rw [e2]
            exact go m om v' w hmN hom hmun hFv hG
        · exact absurd hstep (by simp)
      · have hlag2 : ∃ i o, i < N ∧ l[i]? = some o ∧ listed.getD i false = false ∧ lagB o = false := Classical.byContradiction fun hc => hlag fun i o h1 h2 h3 => by
          cases h4 : lagB o with
          | true => rfl
          | false => exact absurd ⟨i, o, h1, h2, h3, h4⟩ hc
        obtain ⟨i0, o0, hi0, ho0, hun0, hl0⟩ := hlag2
        refine ⟨fun h0 => absurd hready (by rw [h0]; simp), fun j hj => ?_⟩
        obtain ⟨h1, o, ho', h2⟩ := mem_ready.1 hj
        have ho : l[j]? = some o := by simpa using ho'
        have hlt := (List.getElem?_eq_some_iff.1 ho).1
        rw [hgt j hlt] at h1
        obtain ⟨hg, hdst, hdep, hall⟩ := growB_spec hB ho
        have hjN : j < N := by
          rcases Nat.lt_or_ge j N with h | h
          · exact h
          · rcases (hall i0 o0 ho0).2.2 h (by omega) with h3 | h3
            · obtain ⟨e, he, hb, rfl⟩ := depsB_mem h3
              rw [h2 e he hb] at hun0; cases hun0
            · rw [hl0] at h3; exact absurd h3.2 (by simp)
        obtain ⟨hal, hstep⟩ := step j o hjN ho h2
        have hw : Region.wanted o (yielded l.toArray (stL l 0 (fun i => listed.getD i false) vs a).tmps) = true := by simp [Region.wanted, hg]
        unfold wpOp
        simp only [ho', hw, if_true]
        left
        exact wp_move_frame hg (fun cs b => hsel j o cs b ho') hal (fun d hd => by rw [stL_size]; exact hdst d hd) hstep (fun v w' h => go j o v w' hjN ho h1 h.1 h.2)
end
theorem wp_region_grow3 {P : Program} {id : Nat} {Q : Exit → Act → World → Prop} {a : Act} {w : World} {l : List Oper} (N : Nat) (C : World → Prop) (G : Nat → Value → World → World → Prop) (F : Nat → Value → World → Prop) (hm : P.follows .mixedOrders = true) (hB : growB .any N a.tmps.size l = true)
    (hC : C w.drew) (hst : ∀ j x w w', C w → G j x w w' → C w' ∧ ∀ i, i < N → ∀ v, F i v w → F i v w') (hs : stepsL3 P .any l a C G F 0 (l.take N))
    (hf : ∀ vs w', C w' → (∀ i, i < N → F i (vs i) w') → (∀ i j, i < N → j < N → i ≠ j → Prior F G i j (vs i) (vs j) ∨ Prior F G j i (vs j) (vs i)) → wpList P l.toArray (fun e b w => e = .normal ∧ Q .normal b w) (l.drop N) (stL l 0 (fun i => decide (i < N)) vs a) w') : (Code.region id l.toArray true).wp P Q a w := by
  refine Code.wp_mono (Q := fun e b w => e = .normal ∧ Q .normal b w) (fun e b w h => by obtain ⟨rfl, h⟩ := h; exact h) ?_
  refine wp_region_any hm ?_
  have h0 : stL l 0 (fun i => (Array.replicate l.toArray.size false).getD i false) (fun _ => undef) a = a := by
    rw [stL_congr l 0 _ (fun _ => false) (fun _ => undef) (fun _ => undef) a (fun i _ hi => ⟨by simp [Array.getD_eq_getD_getElem?, Array.getElem?_replicate]; split <;> rfl, fun _ => rfl⟩)]
    exact stL_none _ _ _ _
  have := wpAny_grow3 (Q := fun e b w => e = .normal ∧ Q .normal b w) (C := C) (G := G) (F := F) (fun c a w h => absurd h.1 (by simp)) hB hst hs hf l.toArray.size (Array.replicate l.toArray.size false) w.drew (fun _ => undef) (by
    rw [List.countP_eq_length.2 (fun i hi => by simp [Array.getD_eq_getD_getElem?, Array.getElem?_replicate]; split <;> rfl)]
    simp) (by simp) (fun i hi _ => by simp [Array.getD_eq_getD_getElem?, Array.getElem?_replicate]; split <;> rfl) hC (fun i _ h => by
      simp [Array.getD_eq_getD_getElem?, Array.getElem?_replicate] at h
      split at h <;> simp at h) (fun i j _ _ _ h => by
      simp [Array.getD_eq_getD_getElem?, Array.getElem?_replicate] at h
      split at h <;> simp at h)
  rw [h0] at this
  exact this
end Go.Proofs.YtgdccmmcjicgkaaDoor
end
section
namespace Go.Proofs.YtgdccmmcjicgkaaDoor
open Go.RowKit
def lenOf : Value → Nat
  | .slice _ n _ => n
  | _ => 0
end Go.Proofs.YtgdccmmcjicgkaaDoor
end
section
namespace Go.Proofs.YtgdccmmcjicgkaaDoor
open Go.RowKit
def litI (w : World) (l : List Ins) : World := w.alloc (.cells ((l.flatMap encI).map (Value.int .i64)).toArray 24)
theorem InsAt.lit {w : World} {l : List Ins} (hl : ∀ i ∈ l, i.ok) : InsAt (litI w l) (some ⟨w.heap.size, 0, none⟩) l := fun k i hk => by
  refine ⟨_, rfl, rfl, by unfold litI; simp, fun j v hj => ?_, hl i (List.mem_of_getElem? hk)⟩
  have hj4 : j < 4 := (List.getElem?_eq_some_iff.1 hj).1
  have hb := Box.new (w := w) (vs := ((l.flatMap encI).map (Value.int .i64)).toArray) (t := 24) (g := w.heap.size) rfl
  have h2 := hb.2.1 (k * 4 + j)
  rw [show (⟨w.heap.size, 0, none⟩ : Addr).off + k * 4 + j = k * 4 + j by show 0 + k * 4 + j = _; omega]
  exact h2.trans ((flatI_get hk hj4).trans hj)
theorem litI_below (w : World) (l : List Ins) : Below w.heap.size w (litI w l) := (Below.refl _ _).alloc (Nat.le_refl _) _
theorem bld_ins4 {ops : Array Oper} {rest : List Oper} {o : Oper} {a : Act} {Q : Exit → Act → World → Prop} {w : World} (i0 i1 i2 i3 : Ins) (hgd : o.guard = none) (x0 x1 x2 x3 : Operand) (ho : o.op = .buildSlice 22 4 #[(0, x0), (1, x1), (2, x2), (3, x3)]) (h0 : a.eval x0 = i0.v) (h1 : a.eval x1 = i1.v) (h2 : a.eval x2 = i2.v) (h3 : a.eval x3 = i3.v)
    (h : wpList Tryd.prog ops Q rest (a.put o.dst (.slice (some ⟨w.heap.size, 0, none⟩) 4 4)) (litI w [i0, i1, i2, i3])) : wpList Tryd.prog ops Q (o :: rest) a w :=
  wp_bldS hgd 22 24 4 _ ho und_ins 4 size_ins (by decide) (by decide) _ rfl (by show builtS Tryd.prog 24 4 [(0, a.eval x0), (1, a.eval x1), (2, a.eval x2), (3, a.eval x3)] = _; rw [h0, h1, h2, h3]; kernel_rfl) h
end Go.Proofs.YtgdccmmcjicgkaaDoor
end
section
namespace Go.Proofs.YtgdccmmcjicgkaaDoor
open Go.RowKit
theorem sm_delay (op : Int) (w : World) : Calls Tryd.prog 63 #[.int .i64 op] w fun e w' => e = .returned (.int .i64 (delayF op)) ∧ w = w' := by
  by_cases h6 : op = 6
  · subst h6
    go_enter Tryd.func63, Tryd.ntmps63
    go_wp2_with fail
    go_ret
    exact ⟨rfl, rfl⟩
  · have e6 : (op == 6) = false := by simpa using h6
    by_cases h5 : op = 5
    · subst h5
      go_enter Tryd.func63, Tryd.ntmps63
      go_wp2_with fail
      go_ret
      exact ⟨rfl, rfl⟩
    · have e5 : (op == 5) = false := by simpa using h5
      have e : delayF op = 0 := by unfold delayF; rw [if_neg h6, if_neg h5]
      rw [e]
      go_enter Tryd.func63, Tryd.ntmps63
      go_wp2_with fail
      go_ret
      exact ⟨rfl, rfl⟩
set_option maxRecDepth 100000 in
set_option maxHeartbeats 8000000 in
theorem sm_Time (A : Option Addr) (n c : Nat) (l : List Ins) (w : World) (hf : FormsAt w) (h : InsAt w A l) (hn : l.length = n) (h9 : n ≤ 9223372036854775807) : Calls Tryd.prog 30 #[.slice A n c] w (RetTime w l) := by
  have CE := Lib.hid (pr_Encode A n c l w hf h hn h9)
  have HF := Lib.hid hf
  have HI := Lib.hid h
  have HN := Lib.hid hn
  obtain ⟨E, hE⟩ : ∃ E, encE l = E := ⟨_, rfl⟩
  rw [hE] at CE
  by_cases hfl : fineF l = true
  · obtain ⟨e0, ez⟩ := (fine_encE l).1 hfl
    have hE0 : E = 0 := hE.symm.trans e0
    subst hE0
    have hl := fineF_len hfl
    rw [hn] at hl
    have e1 : cycF l = (tmF l).1 := by unfold cycF; rw [if_pos hfl]
    have e2 : stlF l = (tmF l).1 - n := by unfold stlF; rw [if_pos hfl, hn]
    have e3 : depE l = 0 := by unfold depE; rw [if_pos hfl]
    have HE : Hid (cycF l = (tmF l).1 ∧ stlF l = (tmF l).1 - n ∧ depE l = 0) := ⟨e1, e2, e3⟩
    have hn512 : n ≤ 512 := hl.2
    rw [hn] at ez
    have q0 : ¬ (n : Int) = 0 := by omega
    have q00 : ((n : Int) == 0) = false := by simpa using q0
    clear e1 e2 e3 h hn h9 hfl hl hE e0 ez hf
    go_enter Tryd.func30, Tryd.ntmps30
    go_upto_region 4 with (go_at_call 13; (with_reducible refine CE.out.mono ?_); rintro e1 w1 ⟨⟨v, rfl, -⟩, hb1⟩)
    go_upto_region 5 with fail
    have bx := Box.new (w := w1) (vs := #[.int .i64 0, .int .i64 0, .int .i64 0, .int .i64 0, .int .i64 0, .int .i64 0, .int .i64 0, .int .i64 0]) (t := 104) (g := w1.heap.size) rfl
    have HBX0 : Hid (BoxI _ w1.heap.size (List.replicate 8 0)) := bx
    have HBW0 := Lib.hid (hb1.alloc hb1.size (.cells #[.int .i64 0, .int .i64 0, .int .i64 0, .int .i64 0, .int .i64 0, .int .i64 0, .int .i64 0, .int .i64 0] 104))
    have HGB : Hid (w.heap.size ≤ w1.heap.size) := hb1.size
    clear bx hb1 CE q0 q00
    generalize w1.alloc (.cells #[.int .i64 0, .int .i64 0, .int .i64 0, .int .i64 0, .int .i64 0, .int .i64 0, .int .i64 0, .int .i64 0] 104) = w2 at HBX0 HBW0 ⊢
    generalize w1.heap.size = g at HBX0 HGB ⊢
    go_wp2_with fail
    go_loopw [8, 31] (fun nx x wr => ∃ (k : Nat) (P : Int) (R : List Int), k ≤ n ∧ x = .int .i64 k ∧ nx = .int .i64 P ∧ Hid (tmF (l.take k) = (P + 1, R)) ∧ Hid (BoxI wr g R) ∧ Hid (Below w.heap.size w wr)) (fun _ x _ => n - (intOf x).toNat)
    case atStart => exact ⟨0, -1, _, Nat.zero_le _, rfl, rfl, Lib.hid rfl, HBX0, HBW0⟩
    case round =>
      obtain ⟨k, P, R, hk, rfl, rfl, HT, HBX, HBW⟩ := hrel
      obtain ⟨hNb, hRb⟩ := tmF_in l k
      rw [HT.out] at hNb hRb
      have hNb : 0 ≤ P + 1 ∧ P + 1 ≤ 4 * 512 := by
        simp only at hNb
        omega
      have wP : IntKind.i64.wrap (P + 1) = P + 1 := IntWalk.i64_in _ (by omega)
      by_cases hlt : k < n
      · obtain ⟨i, hi⟩ : ∃ i, l[k]? = some i := ⟨_, List.getElem?_eq_getElem (by rw [HN.out]; exact hlt)⟩
        have HX := Lib.hid hi
        obtain ⟨ad, rfl, hs, hb, hr, oki⟩ := (HI.out.grow HBW.out) k i hi
        have HS := Lib.hid hs
        have HR := Lib.hid hr
        have CU : Hid (∀ w1, Below wr.heap.size wr w1 → Calls Tryd.prog 17 #[i.v] w1 (RetII w1 i.rd i.wt)) := fun w1 hb => pr_Uses i w1 ((HF.out.grow HBW.out).grow hb) oki
        have HRB0 : Hid (InB R 8 (4 * 512)) := hRb.le (by omega)
        have HRB : Hid (InB R 8 (4 * 512 + 8)) := hRb.le (by omega)
        have hM := rdF_in HRB0.out (by omega) i.rd (P + 1) hNb
        have hD := delayF_in i.op
        have HTM0 : Hid (tmF (l.take (k + 1)) = (rdF R (P + 1) i.rd + 1, wrF R (rdF R (P + 1) i.rd + 1 + delayF i.op) i.wt)) := by
          show _ = _
          rw [take_snoc' hi, tmF_snoc, HT.out]; rfl
        have CDl : Hid (∀ w, Calls Tryd.prog 63 #[.int .i64 i.op] w fun e w' => e = .returned (.int .i64 (delayF i.op)) ∧ w = w') := fun w => sm_delay i.op w
        obtain ⟨dl, hdl⟩ : ∃ dl, delayF i.op = dl := ⟨_, rfl⟩
        rw [hdl] at hD HTM0 CDl
        obtain ⟨op, hop⟩ : ∃ op, i.op = op := ⟨_, rfl⟩
        rw [hop] at CDl
        have HOP := Lib.hid hop
        clear hdl hop
        have q1 : (0 : Int) ≤ (k : Int) := by omega
        have q2 : (k : Int) < (n : Int) := by omega
        have wk : IntKind.i64.wrap ((k : Int) + 1) = ((k + 1 : Nat) : Int) := (IntWalk.i64_in _ (by omega)).trans (by omega)
        clear hs hr hb oki hi hRb HT
        go_upto_region 9 with (first
          | ((with_reducible show wpList _ _ _ (Oper.mk _ (.load _ _) _ _ _ _ :: _) _ _); refine ld_insA HS.out HR.out rfl _ rfl rfl ?_)
          | ((with_reducible show wpList _ _ _ (Oper.mk _ (.store _ _ _) _ _ _ _ :: _) _ _); refine st_ins (w := wr.alloc (.cells Ins.zero.cells.toArray 24)) (g := wr.heap.size) (i := Ins.zero) (j := i) (Box.new rfl) rfl _ _ rfl rfl rfl ?_; intro W2 b2 p2))
        have hb2 := put_facts ((Below.refl wr.heap.size wr).alloc (Nat.le_refl _) (.cells Ins.zero.cells.toArray 24)) (Nat.le_refl _) p2
        have HG8 : Hid (g < wr.heap.size) := HBX.out.1
        have HBX2 : Hid (BoxI W2 g R) := Box.keep HBX.out hb2
        have HBW2 := Lib.hid (below_then HBW.out hb2)
        have HGW : Hid (wr.heap.size ≤ W2.heap.size) := hb2.size
        have CU2 := Lib.hid (CU.out _ hb2)
        generalize wr.heap.size = g8 at b2 HG8 HGW ⊢
        clear hb2 p2 CU HBX HBW HR
        go_upto_region 10 with (first
          | ((with_reducible show wpList _ _ _ (Oper.mk _ (.load _ _) _ _ _ _ :: _) _ _); refine ld_ins b2 rfl _ rfl rfl ?_)
          | (go_at_call 17; (with_reducible refine CU2.out.mono ?_); rintro e1 w3 ⟨RA, WA, rc, wc, rfl, hra, hwa, hb3⟩))
        obtain ⟨rn, hrn⟩ : ∃ rn, i.rd.length = rn := ⟨_, rfl⟩
        obtain ⟨wn, hwn⟩ : ∃ wn, i.wt.length = wn := ⟨_, rfl⟩
        have hrn2 : rn ≤ 2 := hrn ▸ rd_len i
        have hwn2 : wn ≤ 1 := hwn ▸ wt_len i
        have HRN := Lib.hid hrn
        have HWN := Lib.hid hwn
        rw [hrn, hwn]
        have HRA := Lib.hid hra.1
        have HWA3 : Hid (IntsF (g + 1) w3 WA i.wt) := hwa.base (by have := HG8.out; have := HGW.out; omega)
        have HBX3 : Hid (BoxI w3 g R) := Box.keep HBX2.out hb3
        have HB83 : Hid (Box w3 g8 i.cells) := Box.keep b2 hb3
        have HBW3 := Lib.hid (below_then HBW2.out hb3)
        clear hrn hwn hra hwa hb3 CU2 HBX2 HBW2 b2
        go_upto_region 11 with fail
        obtain ⟨wo, hwo⟩ : ∃ wo : World, wo = wr := ⟨_, rfl⟩
        go_wp2_with fail
        go_loopw [8, 44] (fun nx x wr => ∃ (m : Nat) (M : Int), m ≤ rn ∧ x = .int .i64 m ∧ nx = .int .i64 M ∧ Hid (rdF R (P + 1) (i.rd.take m) = M) ∧ w3 = wr) (fun _ x _ => rn - (intOf x).toNat)
        case atStart => exact ⟨0, P + 1, Nat.zero_le _, rfl, rfl, Lib.hid rfl, rfl⟩
        case round =>
          obtain ⟨m, M, hm, rfl, rfl, HM, rfl⟩ := hrel
          by_cases hmt : m < rn
          · obtain ⟨rd, sv, rfl, hrb, hsv, hrc, -, -⟩ := HRA.out.at_ (k := m) (by rw [HRN.out]; exact hmt)
            have hs0 := rd_nat i sv (List.mem_of_getElem? hsv)
            have HST : Hid (rdF R (P + 1) (i.rd.take (m + 1)) = if sv < 8 then max M (R.getD sv.toNat 0) else M) := by
              show _ = _
              rw [take_snoc' hsv, rdF_snoc, HM.out]
            obtain ⟨s, rfl⟩ : ∃ s : Nat, sv = (s : Int) := ⟨sv.toNat, by omega⟩
            have p1 : (0 : Int) ≤ (m : Int) := by omega
            have p2 : (m : Int) < (rn : Int) := by omega
            have wm : IntKind.i64.wrap ((m : Int) + 1) = ((m + 1 : Nat) : Int) := (IntWalk.i64_in _ (by omega)).trans (by omega)
            clear hsv hrb hs0
            by_cases hs8 : s < 8
            · have p3 : (s : Int) < 8 := by omega
              have p4 : (0 : Int) ≤ (s : Int) := by omega
              obtain ⟨c5, c6⟩ := HBX3.out.cell HRB.out hs8
              have HST2 : Hid (rdF R (P + 1) (i.rd.take (m + 1)) = max M (R.getD s 0)) := by
                show _ = _
                rw [HST.out, if_pos p3, Int.toNat_natCast]
              obtain ⟨mx, hmx⟩ : ∃ mx, max M (R.getD s 0) = mx := ⟨_, rfl⟩
              have HX2 := Lib.hid hmx
              rw [hmx] at HST2
              obtain ⟨rv, hrv⟩ : ∃ rv, R.getD s 0 = rv := ⟨_, rfl⟩
              have HRV := Lib.hid hrv
              rw [hrv] at c5
              clear hmx hrv c6
              go_wp2_with fail
              go_roundw
              case rel => exact ⟨m + 1, mx, by omega, rfl, by rw [← HRV.out, HX2.out], HST2, by first | rfl | trivial⟩
              case measure => simp [intOf]; omega
            · have p3 : ¬ (s : Int) < 8 := by omega
              go_wp2_with fail
              go_roundw
              case rel => exact ⟨m + 1, M, by omega, rfl, rfl, Lib.hid (by show _ = _; rw [HST.out, if_neg p3]), by first | rfl | trivial⟩
              case measure => simp [intOf]; omega
          · obtain rfl : m = rn := by omega
            have hlo : ¬ (m : Int) < (m : Int) := by omega
            have hMe : rdF R (P + 1) i.rd = M := by
              have := HM.out
              rw [List.take_of_length_le (Nat.le_of_eq HRN.out)] at this
              exact this
            rw [hMe] at hM HTM0
            obtain ⟨tR, htR⟩ : ∃ tR, wrF R (M + 1 + dl) i.wt = tR := ⟨_, rfl⟩
            have HTR := Lib.hid htR
            rw [htR] at HTM0
            have HTM := HTM0
            have v1 : IntKind.i64.wrap (M + 1) = M + 1 := IntWalk.i64_in _ (by omega)
            have v2 : IntKind.i64.wrap (M + 1 + dl) = M + 1 + dl := IntWalk.i64_in _ (by omega)
            clear htR HTM0 hMe HM
            go_wp2_with fail
            go_loopw [58] (fun x wr => ∃ m : Nat, m ≤ wn ∧ x = .int .i64 m ∧ Hid (BoxI wr g (wrF R (M + 1 + dl) (i.wt.take m))) ∧ Hid (Below w.heap.size w wr) ∧ Hid (IntsF (g + 1) wr WA i.wt) ∧ Hid (Box wr g8 i.cells)) (fun x _ => wn - (intOf x).toNat)
            case atStart => exact ⟨0, Nat.zero_le _, rfl, HBX3, HBW3, HWA3, HB83⟩
            case round =>
              obtain ⟨m, hm, rfl, HBX, HBW, HWA, HB8⟩ := hrel
              by_cases hmt : m < wn
              · obtain ⟨wd, sv, rfl, hwb, hsv, hwc, -, -⟩ := HWA.out.1.at_ (k := m) (by rw [HWN.out]; exact hmt)
                have hs0 := wt_nat i sv (List.mem_of_getElem? hsv)
                have HST : Hid (wrF R (M + 1 + dl) (i.wt.take (m + 1)) = if sv < 8 then (wrF R (M + 1 + dl) (i.wt.take m)).set sv.toNat (M + 1 + dl) else wrF R (M + 1 + dl) (i.wt.take m)) := by
                  show _ = _
                  rw [take_snoc' hsv, wrF_snoc]
                have HIBm := Lib.hid (wrF_in (v := M + 1 + dl) (B := 4 * 512 + 8) (by omega) (i.wt.take m) R HRB.out)
                obtain ⟨R5, hR5⟩ : ∃ R5, wrF R (M + 1 + dl) (i.wt.take m) = R5 := ⟨_, rfl⟩
                rw [hR5] at HBX HST HIBm
                obtain ⟨s, rfl⟩ : ∃ s : Nat, sv = (s : Int) := ⟨sv.toNat, by omega⟩
                have p1 : (0 : Int) ≤ (m : Int) := by omega
                have p2 : (m : Int) < (wn : Int) := by omega
                have wm : IntKind.i64.wrap ((m : Int) + 1) = ((m + 1 : Nat) : Int) := (IntWalk.i64_in _ (by omega)).trans (by omega)
                clear hR5 hsv hwb hs0
                by_cases hs8 : s < 8
                · have p3 : (s : Int) < 8 := by omega
                  have p4 : (0 : Int) ≤ (s : Int) := by omega
                  obtain ⟨c5, c6⟩ := HBX.out.cell HIBm.out hs8
                  have f5 : wr.cell? ⟨g8, 0, none⟩ = some (.int .i64 i.op) := (HB8.out.2.1 0).trans rfl
                  rw [HOP.out] at f5
                  go_upto_region 22 with (go_at_call 63; (with_reducible refine (CDl.out _).mono ?_); rintro e1 w9 ⟨rfl, rfl⟩)
                  have HBX9 := Lib.hid (HBX.out.set HIBm.out (s := s) hs8 (M + 1 + dl))
                  have HBW9 := Lib.hid (below_set (k := s) (u := .int .i64 (M + 1 + dl)) HBW.out HGB.out)
                  have HWA9 := Lib.hid (HWA.out.away (grown_set (grown_refl _ (some g)) (k := s) (u := .int .i64 (M + 1 + dl))) (Nat.lt_succ_self g))
                  have HB89 := Lib.hid (Box.past (b := g) (k := s) (u := .int .i64 (M + 1 + dl)) HB8.out (by have := HG8.out; omega))
                  clear c5 c6 f5
                  go_wp2_with fail
                  go_roundw
                  case rel => exact ⟨m + 1, by omega, rfl, Lib.hid (by show BoxI _ g _; rw [HST.out, if_pos (by omega), Int.toNat_natCast]; exact HBX9.out), HBW9, HWA9, HB89⟩
                  case measure => simp [intOf]; omega
                · have p3 : ¬ (s : Int) < 8 := by omega
                  go_wp2_with fail
                  go_roundw
                  case rel => exact ⟨m + 1, by omega, rfl, Lib.hid (by show BoxI wr g _; rw [HST.out, if_neg (by omega)]; exact HBX.out), HBW, HWA, HB8⟩
                  case measure => simp [intOf]; omega
              · obtain rfl : m = wn := by omega
                have hlo : ¬ (m : Int) < (m : Int) := by omega
                go_wp2_with fail
                go_roundw
                case rel => exact ⟨k + 1, M, tR, by omega, rfl, rfl, HTM, Lib.hid (by
                  show BoxI wr g tR
                  have := HBX.out
                  rw [List.take_of_length_le (Nat.le_of_eq HWN.out), HTR.out] at this
                  exact this), HBW⟩
                case measure => simp [intOf]; omega
      · obtain rfl : k = n := by omega
        have hlo : ¬ (k : Int) < (k : Int) := by omega
        have hT := HT.out
        rw [List.take_of_length_le (Nat.le_of_eq HN.out)] at hT
        have HTT := Lib.hid hT
        have wN : IntKind.i64.wrap (P + 1 - (k : Int)) = P + 1 - (k : Int) := IntWalk.i64_in _ (by omega)
        clear hT hNb hRb
        go_wp2_with fail
        go_ret3
        refine ⟨?_, HBW.out⟩
        rw [HE.out.1, HE.out.2.1, HE.out.2.2, HTT.out]; rfl
  · have hfl : fineF l = false := by simpa using hfl
    have e1 : cycF l = 0 := by unfold cycF; rw [hfl]; rfl
    have e2 : stlF l = 0 := by unfold stlF; rw [hfl]; rfl
    have e3 : depE l = 21 := by unfold depE; rw [hfl]; rfl
    have HE : Hid (cycF l = 0 ∧ stlF l = 0 ∧ depE l = 21) := ⟨e1, e2, e3⟩
    clear e1 e2 e3 h hn h9 hf
    by_cases hE0 : E = 0
    · subst hE0
      have hn0 : n = 0 := by
        have := mt (fine_encE l).2 (by rw [hfl]; decide)
        rw [HN.out] at this
        by_cases h0 : n = 0
        · exact h0
        · exact absurd ⟨hE, h0⟩ this
      subst hn0
      clear hE hfl
      go_enter Tryd.func30, Tryd.ntmps30
      go_wp2_with (go_at_call 13; (with_reducible refine CE.out.mono ?_); rintro e1 w1 ⟨⟨v, rfl, -⟩, hb1⟩)
      go_ret3
      refine ⟨?_, hb1⟩
      rw [HE.out.1, HE.out.2.1, HE.out.2.2]; rfl
    · have hEb : (E == 0) = false := by simpa using hE0
      clear hE hfl
      go_enter Tryd.func30, Tryd.ntmps30
      go_wp2_with (go_at_call 13; (with_reducible refine CE.out.mono ?_); rintro e1 w1 ⟨⟨v, rfl, -⟩, hb1⟩)
      go_ret3
      refine ⟨?_, hb1⟩
      rw [HE.out.1, HE.out.2.1, HE.out.2.2]; rfl
end Go.Proofs.YtgdccmmcjicgkaaDoor
end
section
namespace Go.Proofs.YtgdccmmcjicgkaaDoor
open Go.RowKit
end Go.Proofs.YtgdccmmcjicgkaaDoor
end
