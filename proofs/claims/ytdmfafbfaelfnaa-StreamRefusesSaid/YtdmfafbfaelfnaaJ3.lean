/- As XJ, and of any two operations it is told which came first: what was there and what is new. -/
import Derived.Test.YtdmfafbfaelfnaaJ
namespace Go.Proofs.Ytdmfafbfaelfnaa
open Go.RowKit

section
variable {P : Program} {md : Region.Mode}
/-- Of two operations one came first. -/
def Prior (F : Nat → Value → World → Prop) (G : Nat → Value → World → World → Prop) (i j : Nat) (u v : Value) : Prop := ∃ w w', F i u w ∧ G j v w w'
/-- One goal for each operation; what is new of it is said of the worlds around it. -/
def stepsL3 (P : Program) (md : Region.Mode) (ops : List Oper) (a : Act) (C : World → Prop) (G : Nat → Value → World → World → Prop) (F : Nat → Value → World → Prop) : Nat → List Oper → Prop
  | _, [] => True
  | k, o :: l => (∀ vs w, C w → (∀ i, depsB md o i = true → F i (vs i) w) → (∀ i j, depsB md o i = true → depsB md o j = true → i ≠ j → Prior F G i j (vs i) (vs j) ∨ Prior F G j i (vs j) (vs i)) → wpList P #[o] (fun e c w' => e = .normal ∧ ∃ v, c = (stL ops 0 (depsB md o) vs a).put o.dst v ∧ (F k v w' ∧ G k v w w')) [o] (stL ops 0 (depsB md o) vs a) w) ∧ stepsL3 P md ops a C G F (k + 1) l
theorem stepsL3_at {ops : List Oper} {a : Act} {C : World → Prop} {G : Nat → Value → World → World → Prop} {F : Nat → Value → World → Prop} : ∀ (l : List Oper) (k j : Nat) (o : Oper), stepsL3 P md ops a C G F k l → l[j]? = some o →
    ∀ vs w, C w → (∀ i, depsB md o i = true → F i (vs i) w) → (∀ i j, depsB md o i = true → depsB md o j = true → i ≠ j → Prior F G i j (vs i) (vs j) ∨ Prior F G j i (vs j) (vs i)) → wpList P #[o] (fun e c w' => e = .normal ∧ ∃ v, c = (stL ops 0 (depsB md o) vs a).put o.dst v ∧ (F (k + j) v w' ∧ G (k + j) v w w')) [o] (stL ops 0 (depsB md o) vs a) w
  | [], _, _, _, _, h => by simp at h
  | o :: l, k, 0, o', hs, h => by
    simp only [List.getElem?_cons_zero, Option.some.injEq] at h
    subst h
    exact hs.1
  | o :: l, k, j + 1, o', hs, h => by
    rw [show k + (j + 1) = k + 1 + j by omega]
    exact stepsL3_at l (k + 1) j o' hs.2 (by simpa using h)
theorem wpAny_grow3 {N : Nat} {l : List Oper} {a : Act} {Q : Exit → Act → World → Prop} {C : World → Prop} {G : Nat → Value → World → World → Prop} {F : Nat → Value → World → Prop} (hQ : ∀ c a w, ¬ Q (.panic c) a w) (hB : growB md N a.tmps.size l = true)
    (hst : ∀ j x w w', C w → G j x w w' → C w' ∧ ∀ i, i < N → ∀ v, F i v w → F i v w') (hs : stepsL3 P md l a C G F 0 (l.take N))
    (hf : ∀ vs w', C w' → (∀ i, i < N → F i (vs i) w') → (∀ i j, i < N → j < N → i ≠ j → Prior F G i j (vs i) (vs j) ∨ Prior F G j i (vs j) (vs i)) → wpList P l.toArray Q (l.drop N) (stL l 0 (fun i => decide (i < N)) vs a) w') :
    ∀ (fuel : Nat) (listed : Array Bool) (w : World) (vs : Nat → Value), (List.range l.length).countP (fun i => !listed.getD i false) = fuel → listed.size = l.length → (∀ i, i < l.length → N ≤ i → listed.getD i false = false) → C w →
      (∀ i, i < N → listed.getD i false = true → F i (vs i) w) → (∀ i j, i < N → j < N → i ≠ j → listed.getD i false = true → listed.getD j false = true → Prior F G i j (vs i) (vs j) ∨ Prior F G j i (vs j) (vs i)) → wpAny P md l.toArray Q fuel listed (stL l 0 (fun i => listed.getD i false) vs a) w := by
  have hNl : N ≤ l.length := by
    unfold growB at hB
    simp only [Bool.and_eq_true, decide_eq_true_eq] at hB
    exact hB.2.1
  have hsel : ∀ (j : Nat) (o : Oper) cs b, l.toArray[j]? = some o → o.op ≠ .select cs b := by
    unfold growB at hB
    rw [Bool.and_eq_true] at hB
    exact Region.noSelect_spec hB.1
  intro fuel
  induction fuel with
  | zero =>
    intro listed w vs hc hsz ht hC hF hP
    have hall := cnt_zero hc
    have hlist : ∀ i, i < l.length → listed.getD i false = true := fun i hi => by simpa using hall i hi
    have hN : N = l.length := by
      rcases Nat.lt_or_ge N l.length with h | h
      · have h1 := ht N h (Nat.le_refl _)
        rw [hlist N h] at h1; cases h1
      · omega
    refine wpAny_tail hB 0 l.length listed _ w rfl (by omega) hsz (fun i hi => by rw [hlist i hi]; simp [hi]) ?_
    have := hf vs w hC (fun i hi => hF i hi (hlist i (by omega))) (fun i j hi hj hn => hP i j hi hj hn (hlist i (by omega)) (hlist j (by omega)))
    rw [hN] at this
    rw [stL_congr l 0 _ (fun i => decide (i < l.length)) vs vs a (fun i _ hi => ⟨by rw [hlist i (by omega)]; simp; omega, fun _ => rfl⟩)]
    exact this
  | succ fuel ih =>
    intro listed w vs hc hsz ht hC hF hP
    by_cases hfull : ∀ i, i < N → listed.getD i false = true
    · have hl : ∀ i, i < l.length → listed.getD i false = decide (i < N) := fun i hi => by
        by_cases h : i < N
        · rw [hfull i h]; simp [h]
        · rw [ht i hi (by omega)]; simp; omega
      have hk : N + (fuel + 1) = l.length := by
        have e : (List.range l.length).countP (fun i => !listed.getD i false) = (List.range l.length).countP (fun i => decide (N ≤ i)) := List.countP_congr fun i hi => by
          rw [hl i (List.mem_range.1 hi)]
          simp
        have e2 : ∀ n, (List.range n).countP (fun i => decide (N ≤ i)) = n - N := fun n => by
          induction n with
          | zero => simp
          | succ n ihn =>
            rw [List.range_succ, List.countP_append, ihn]
            by_cases h : N ≤ n
            · simp [h]; omega
            · simp [h]; omega
        rw [e, e2] at hc
        omega
      refine wpAny_tail hB (fuel + 1) N listed _ w hk (Nat.le_refl _) hsz hl ?_
      have := hf vs w hC (fun i hi => hF i hi (hfull i hi)) (fun i j hi hj hn => hP i j hi hj hn (hfull i hi) (hfull j hj))
      rw [stL_congr l 0 _ (fun i => decide (i < N)) vs vs a (fun i _ hi => ⟨hl i (by omega), fun _ => rfl⟩)]
      exact this
    · -- the least one that is not listed can come up
      obtain ⟨m, hmN, hmun, hmin⟩ : ∃ m, m < N ∧ listed.getD m false = false ∧ ∀ i, i < m → listed.getD i false = true := by
        have : ∃ m, m < N ∧ listed.getD m false = false := by
          rcases Classical.not_forall.1 hfull with ⟨m, hm⟩
          rw [Classical.not_imp] at hm
          exact ⟨m, hm.1, by simpa using hm.2⟩
        obtain ⟨m, h1, h2⟩ := this
        clear hfull
        induction m using Nat.strongRecOn with
        | _ m ihm =>
          by_cases h : ∃ i, i < m ∧ listed.getD i false = false
          · obtain ⟨i, hi, hi2⟩ := h
            exact ihm i hi (by omega) hi2
          · refine ⟨m, h1, h2, fun i hi => ?_⟩
            cases hv : listed.getD i false with
            | true => rfl
            | false => exact absurd ⟨i, hi, hv⟩ h
      have hgt : ∀ i, i < l.length → ∀ d, listed.getD i d = listed.getD i false := fun i hi d => by
        rw [Array.getD_eq_getD_getElem?, Array.getD_eq_getD_getElem?, Array.getElem?_eq_getElem (by omega)]
        rfl
      obtain ⟨om, hom⟩ : ∃ o, l[m]? = some o := ⟨_, List.getElem?_eq_getElem (by omega)⟩
      have hready : m ∈ Region.ready md l.toArray listed := by
        rw [mem_ready]
        exact ⟨by rw [hgt m (by omega)]; exact hmun, om, by simpa using hom, fun e he hb => hmin e.on ((growB_spec hB hom).2.2.1 e he hb)⟩
      -- one operation of the first N, done
      have go : ∀ j o v w', j < N → l[j]? = some o → listed.getD j false = false → F j v w' → G j v w w' → wpAny P md l.toArray Q fuel (listed.setIfInBounds j true) ((stL l 0 (fun i => listed.getD i false) vs a).put o.dst v) w' := by
        intro j o v w' hjN ho h1 hFv hG
        obtain ⟨_, _, _, hall⟩ := growB_spec hB ho
        have hlt := (List.getElem?_eq_some_iff.1 ho).1
        obtain ⟨hC', hst'⟩ := hst j v w w' hC hG
        have hadd := stL_add l 0 j (fun i => listed.getD i false) vs a o v ho (by rw [Nat.zero_add]; exact h1) (fun i o' hi hne d hd => (hall i o' hi).1 (fun e => hne e.symm) d hd)
        simp only [Nat.zero_add] at hadd
        have hget : ∀ i, (listed.setIfInBounds j true).getD i false = (listed.getD i false || i == j) := fun i => by
          by_cases e : j = i
          · subst e
            rw [Array.getD_eq_getD_getElem?, Array.getElem?_setIfInBounds_self_of_lt (by omega)]
            simp
          · rw [getD_set_ne false e]
            have : (i == j) = false := by simp; exact fun h => e h.symm
            rw [this, Bool.or_false]
        rw [← hadd, ← stL_congr l 0 (fun i => (listed.setIfInBounds j true).getD i false) _ (fun i => if i = j then v else vs i) _ a (fun i _ _ => ⟨hget i, fun _ => rfl⟩)]
        refine ih (listed.setIfInBounds j true) w' (fun i => if i = j then v else vs i) ?_ (by simpa using hsz) (fun i hi hNi => ?_) hC' (fun i hi hl => ?_) (fun i i' hi hi' hne hl hl' => ?_)
        · have := cnt_set l.length (fun i => !listed.getD i false) (fun i => !(listed.setIfInBounds j true).getD i false) j hlt (by rw [h1]; rfl) (by rw [hget]; simp) (fun i hi => by rw [hget]; simp [hi])
          omega
        · rw [hget, ht i hi hNi]
          simp; omega
        · rw [hget] at hl
          by_cases e : i = j
          · subst e; simpa using hFv
          · rw [if_neg e]
            refine hst' i hi _ (hF i hi ?_)
            have : (i == j) = false := by simp [e]
            rw [this, Bool.or_false] at hl
            exact hl
        · rw [hget] at hl hl'
          by_cases e : i = j
          · subst e
            have e' : (i' == i) = false := by simp; exact fun h => hne h.symm
            rw [e', Bool.or_false] at hl'
            have e2 : ¬ i' = i := fun h => hne h.symm
            simp only [if_true, e2, if_false]
            exact .inr ⟨w, w', hF i' hi' hl', hG⟩
          · have e1 : (i == j) = false := by simp; exact e
            rw [e1, Bool.or_false] at hl
            by_cases e' : i' = j
            · subst e'
              simp only [if_true, e, if_false]
              exact .inl ⟨w, w', hF i hi hl, hG⟩
            · have e2 : (i' == j) = false := by simp; exact e'
              rw [e2, Bool.or_false] at hl'
              simp only [e, e', if_false]
              exact hP i i' hi hi' hne hl hl'
      have step : ∀ j o, j < N → l[j]? = some o → (∀ e ∈ o.after, Region.binds md e = true → listed.getD e.on false = true) → Alike2 o (stL l 0 (fun i => listed.getD i false) vs a) (stL l 0 (depsB md o) vs a) ∧ wpList P #[o] (fun e c w' => e = .normal ∧ ∃ v, c = (stL l 0 (depsB md o) vs a).put o.dst v ∧ (F j v w' ∧ G j v w w')) [o] (stL l 0 (depsB md o) vs a) w := by
        intro j o hjN ho h2
        obtain ⟨_, _, hdep, hall⟩ := growB_spec hB ho
        have hdl : ∀ i, depsB md o i = true → listed.getD i false = true := fun i hi => by
          obtain ⟨e, he, hb, rfl⟩ := depsB_mem hi
          exact h2 e he hb
        have hdN : ∀ i, depsB md o i = true → i < N := fun i hi => by
          obtain ⟨e, he, hb, rfl⟩ := depsB_mem hi
          have := hdep e he hb
          omega
        have hstep := stepsL3_at (l.take N) 0 j o hs (by rw [List.getElem?_take, if_pos hjN]; exact ho) vs w hC (fun i hi => hF i (hdN i hi) (hdl i hi)) (fun i i' hi hi' hne => hP i i' (hdN i hi) (hdN i' hi') hne (hdl i hi) (hdl i' hi'))
        rw [Nat.zero_add] at hstep
        refine ⟨stL_alike l 0 _ _ vs a a (fun i o' hi hne d hd => ?_) ⟨rfl, fun _ _ => rfl⟩, hstep⟩
        rw [Nat.zero_add] at hne
        refine (hall i o' hi).2.1 ?_ d hd
        cases hdp : depsB md o i with
        | false => rfl
        | true => rw [hdl i hdp, hdp] at hne; exact absurd rfl hne
      by_cases hlag : ∀ i o, i < N → l[i]? = some o → listed.getD i false = false → lagB o = true
      · -- only such as look at the frame alone are left: the least one is taken first
        obtain ⟨hg, hdst, hdep, hall⟩ := growB_spec hB hom
        have h2 : ∀ e ∈ om.after, Region.binds md e = true → listed.getD e.on false = true := fun e he hb => hmin e.on (hdep e he hb)
        obtain ⟨hal, hstep⟩ := step m om hmN hom h2
        have hsm : ∀ cs b, om.op ≠ .select cs b := fun cs b => hsel m om cs b (by simpa using hom)
        have hw1 : Region.wanted om (yielded #[om] (stL l 0 (depsB md om) vs a).tmps) = true := by simp [Region.wanted, hg]
        simp only [wpList, hw1, if_true] at hstep
        rcases hstep with hstep | ⟨_, _, _, hstep, _⟩
        · unfold Oper.wp at hstep
          obtain ⟨v, hup, hrun⟩ := lag_run (R := fun r => om.upon P (stL l 0 (depsB md om) vs a) _ _ r) (hlag m om hmN hom hmun) hstep (fun x w' hx => by
            cases x with
            | panic v => exact absurd hx.1 (by simp)
            | _ => exact absurd hx (by simp [Oper.upon]))
          obtain ⟨_, v', e, hFv, hG⟩ := hup
          have e2 := put_det (b := stL l 0 (fun i => listed.getD i false) vs a) hal.1 (fun d hd => by rw [stL_size]; exact hdst d hd) e
          have hrun2 : ∀ w', (execOp (stL l 0 (fun i => listed.getD i false) vs a).eval om).run P w' = .ok (.value v) w' := fun w' => by
            rw [execOp_congr om hsm (fun x hx => hal.2 x hx)]; exact hrun w'
          refine wpAny_first (i := m) (oi := om) (v := v) (by simpa using hom) hsel (fun c a w h => absurd h (hQ _ _ _)) fuel listed _ w (fun j oj hj hne hun hno => ?_) hready (.inl ⟨by simp [Region.wanted, hg], hrun2⟩) ?_
          · have hj' : l[j]? = some oj := by simpa using hj
            have hjl := (List.getElem?_eq_some_iff.1 hj').1
            obtain ⟨hgj, _, _, hallj⟩ := growB_spec hB hj'
            have hjm : depsB md oj m = false := by
              cases hdp : depsB md oj m with
              | false => rfl
              | true =>
                obtain ⟨e, he, hb, h⟩ := depsB_mem hdp
                exact absurd h (hno e he hb)
            have hmj : depsB md om j = false := by
              cases hdp : depsB md om j with
              | false => rfl
              | true =>
                obtain ⟨e, he, hb, h⟩ := depsB_mem hdp
                have h3 := h2 e he hb
                rw [h, ← hgt j hjl true, hun] at h3; cases h3
            have looks : ∀ (o : Oper) (d : Tmp), o.guard = none → .tmp d ∉ o.op.operands → d ∉ o.looksAt l.toArray := fun o d hg hn hm => by
              unfold Oper.looksAt at hm
              rw [hg] at hm
              simp only [List.append_nil, List.mem_filterMap] at hm
              obtain ⟨x, hx, hx2⟩ := hm
              cases x with
              | tmp t =>
                simp at hx2
                subst hx2
                exact hn (by simpa using hx)
              | _ => simp at hx2
            unfold Oper.apart
            rw [Bool.and_eq_true]
            refine ⟨?_, ?_⟩
            · cases hd : om.dst with
              | none => rfl
              | some d =>
                simp only [Bool.and_eq_true, Bool.not_eq_true']
                refine ⟨?_, ?_⟩
                · have := looks oj d hgj ((hallj m om hom).2.1 hjm d hd)
                  simpa using this
                · have := (hall j oj hj').1 (fun e => hne e.symm) d hd
                  simpa using this
            · cases hd : oj.dst with
              | none => rfl
              | some d =>
                have := looks om d hg ((hall j oj hj').2.1 hmj d hd)
                simpa using this
          · rw [e2]
            exact go m om v' w hmN hom hmun hFv hG
        · exact absurd hstep (by simp)
      · have hlag2 : ∃ i o, i < N ∧ l[i]? = some o ∧ listed.getD i false = false ∧ lagB o = false := Classical.byContradiction fun hc => hlag fun i o h1 h2 h3 => by
          cases h4 : lagB o with
          | true => rfl
          | false => exact absurd ⟨i, o, h1, h2, h3, h4⟩ hc
        obtain ⟨i0, o0, hi0, ho0, hun0, hl0⟩ := hlag2
        refine ⟨fun h0 => absurd hready (by rw [h0]; simp), fun j hj => ?_⟩
        obtain ⟨h1, o, ho', h2⟩ := mem_ready.1 hj
        have ho : l[j]? = some o := by simpa using ho'
        have hlt := (List.getElem?_eq_some_iff.1 ho).1
        rw [hgt j hlt] at h1
        obtain ⟨hg, hdst, hdep, hall⟩ := growB_spec hB ho
        have hjN : j < N := by
          rcases Nat.lt_or_ge j N with h | h
          · exact h
          · rcases (hall i0 o0 ho0).2.2 h (by omega) with h3 | h3
            · obtain ⟨e, he, hb, rfl⟩ := depsB_mem h3
              rw [h2 e he hb] at hun0; cases hun0
            · rw [hl0] at h3; exact absurd h3.2 (by simp)
        obtain ⟨hal, hstep⟩ := step j o hjN ho h2
        have hw : Region.wanted o (yielded l.toArray (stL l 0 (fun i => listed.getD i false) vs a).tmps) = true := by simp [Region.wanted, hg]
        unfold wpOp
        simp only [ho', hw, if_true]
        left
        exact wp_move_frame hg (fun cs b => hsel j o cs b ho') hal (fun d hd => by rw [stL_size]; exact hdst d hd) hstep (fun v w' h => go j o v w' hjN ho h1 h.1 h.2)
end
/-- **The law**: a region that draws its order. -/
theorem wp_region_grow3 {P : Program} {id : Nat} {Q : Exit → Act → World → Prop} {a : Act} {w : World} {l : List Oper} (N : Nat) (C : World → Prop) (G : Nat → Value → World → World → Prop) (F : Nat → Value → World → Prop) (hm : P.follows .mixedOrders = true) (hB : growB .any N a.tmps.size l = true)
    (hC : C w.drew) (hst : ∀ j x w w', C w → G j x w w' → C w' ∧ ∀ i, i < N → ∀ v, F i v w → F i v w') (hs : stepsL3 P .any l a C G F 0 (l.take N))
    (hf : ∀ vs w', C w' → (∀ i, i < N → F i (vs i) w') → (∀ i j, i < N → j < N → i ≠ j → Prior F G i j (vs i) (vs j) ∨ Prior F G j i (vs j) (vs i)) → wpList P l.toArray (fun e b w => e = .normal ∧ Q .normal b w) (l.drop N) (stL l 0 (fun i => decide (i < N)) vs a) w') : (Code.region id l.toArray true).wp P Q a w := by
  refine Code.wp_mono (Q := fun e b w => e = .normal ∧ Q .normal b w) (fun e b w h => by obtain ⟨rfl, h⟩ := h; exact h) ?_
  refine wp_region_any hm ?_
  have h0 : stL l 0 (fun i => (Array.replicate l.toArray.size false).getD i false) (fun _ => undef) a = a := by
    rw [stL_congr l 0 _ (fun _ => false) (fun _ => undef) (fun _ => undef) a (fun i _ hi => ⟨by simp [Array.getD_eq_getD_getElem?, Array.getElem?_replicate]; split <;> rfl, fun _ => rfl⟩)]
    exact stL_none _ _ _ _
  have := wpAny_grow3 (Q := fun e b w => e = .normal ∧ Q .normal b w) (C := C) (G := G) (F := F) (fun c a w h => absurd h.1 (by simp)) hB hst hs hf l.toArray.size (Array.replicate l.toArray.size false) w.drew (fun _ => undef) (by
    rw [List.countP_eq_length.2 (fun i hi => by simp [Array.getD_eq_getD_getElem?, Array.getElem?_replicate]; split <;> rfl)]
    simp) (by simp) (fun i hi _ => by simp [Array.getD_eq_getD_getElem?, Array.getElem?_replicate]; split <;> rfl) hC (fun i _ h => by
      simp [Array.getD_eq_getD_getElem?, Array.getElem?_replicate] at h
      split at h <;> simp at h) (fun i j _ _ _ h => by
      simp [Array.getD_eq_getD_getElem?, Array.getElem?_replicate] at h
      split at h <;> simp at h)
  rw [h0] at this
  exact this
end Go.Proofs.Ytdmfafbfaelfnaa
