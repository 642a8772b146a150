/- Several texts in one: J7 Z3. -/
import Derived.Test.YtmdfgidejdiiiaadJ2toVp
import Derived.Test.YtmdfgidejdiiiaadZytoJ4
set_option linter.unusedVariables false
set_option linter.unusedSimpArgs false
section
namespace Go.Proofs.Ytmdfgidejdiiiaa
open Go.RowKit
section
variable {P : Program} {md : Region.Mode}
def steps7 (P : Program) (md : Region.Mode) (ops : List Oper) (fb : Nat → Bool) (a : Act) (C : World → Prop) (G : Nat → Value → World → World → Prop) (F : Nat → Value → World → Prop) : Nat → List Oper → Prop
  | _, [] => True
  | k, o :: l => match fb k with
    | true => (∀ vs w, C w → (∀ i, depsB md o i = true → F i (vs i) w) → wpList P #[o] (fun e c w' => e = .normal ∧ ∃ v, c = (stL ops 0 (depsB md o) vs a).put o.dst v ∧ (F k v w' ∧ G k v w w')) [o] (stL ops 0 (depsB md o) vs a) w) ∧ steps7 P md ops fb a C G F (k + 1) l
    | false => steps7 P md ops fb a C G F (k + 1) l
theorem steps7_at {ops : List Oper} {fb : Nat → Bool} {a : Act} {C : World → Prop} {G : Nat → Value → World → World → Prop} {F : Nat → Value → World → Prop} : ∀ (l : List Oper) (k j : Nat) (o : Oper), steps7 P md ops fb a C G F k l → l[j]? = some o → fb (k + j) = true →
    ∀ vs w, C w → (∀ i, depsB md o i = true → F i (vs i) w) → wpList P #[o] (fun e c w' => e = .normal ∧ ∃ v, c = (stL ops 0 (depsB md o) vs a).put o.dst v ∧ (F (k + j) v w' ∧ G (k + j) v w w')) [o] (stL ops 0 (depsB md o) vs a) w
  | [], _, _, _, _, h, _ => by simp at h
  | o :: l, k, 0, o', hs, h, hf => by
    simp only [List.getElem?_cons_zero, Option.some.injEq] at h
    subst h
    simp only [steps7] at hs
    rw [Nat.add_zero] at hf
    rw [hf] at hs
    exact hs.1
  | o :: l, k, j + 1, o', hs, h, hf => by
    rw [show k + (j + 1) = k + 1 + j by omega] at hf ⊢
    have hs' : steps7 P md ops fb a C G F (k + 1) l := by
      simp only [steps7] at hs
      cases hk : fb k with
      | true => rw [hk] at hs; exact hs.2
      | false => rw [hk] at hs; exact hs
    exact steps7_at l (k + 1) j o' hs' (by simpa using h) hf
theorem wpAny_grow7 {fb ls : Nat → Bool} {l : List Oper} {a : Act} {Q : Exit → Act → World → Prop} {C : World → Prop} {G : Nat → Value → World → World → Prop} {H : World → World → Prop} {F : Nat → Value → World → Prop} (hQ : ∀ c a w, ¬ Q (.panic c) a w) (hB : grow2B md fb ls a.tmps.size l = true)
    (hst : ∀ j x w w', C w → G j x w w' → C w' ∧ (∀ i, fb i = true → ∀ v, F i v w → F i v w') ∧ H w' w' ∧ ∀ w0, H w0 w → H w0 w') (hrf : ∀ j v w, ls j = true → C w → G j v w w) (hs : steps7 P md l fb a C G F 0 l)
    (hlag : ∀ j o, l[j]? = some o → fb j = true → ls j = true → ∀ vs w, C w → (∀ i, depsB md o i = true → F i (vs i) w) → ∃ v, (∀ w', (execOp (stL l 0 (depsB md o) vs a).eval o).run P w' = .ok (.value v) w') ∧ F j v w)
    (hf : ∀ vs w', C w' → (∀ i, i < l.length → fb i = true → F i (vs i) w') → (∀ i j, i < l.length → j < l.length → fb i = true → fb j = true → i ≠ j → Prior4 F G H i j (vs i) (vs j) w' ∨ Prior4 F G H j i (vs j) (vs i) w') → wpList P l.toArray Q (((List.range l.length).filter fun i => !fb i).filterMap fun i => l[i]?) (stL l 0 fb vs a) w') :
    ∀ (fuel : Nat) (listed : Array Bool) (w : World) (vs : Nat → Value), (List.range l.length).countP (fun i => !listed.getD i false) = fuel → listed.size = l.length → (∀ i, i < l.length → fb i = false → listed.getD i false = false) →
      (∀ i o, l[i]? = some o → listed.getD i false = true → ∀ e ∈ o.after, Region.binds md e = true → listed.getD e.on false = true) → C w →
      (∀ i, listed.getD i false = true → F i (vs i) w) → (∀ i j, i ≠ j → listed.getD i false = true → listed.getD j false = true → Prior4 F G H i j (vs i) (vs j) w ∨ Prior4 F G H j i (vs j) (vs i) w) → wpAny P md l.toArray Q fuel listed (stL l 0 (fun i => listed.getD i false) vs a) w := by
  have hsel : ∀ (j : Nat) (o : Oper) cs b, l.toArray[j]? = some o → o.op ≠ .select cs b := by
    unfold grow2B at hB
    rw [Bool.and_eq_true] at hB
    exact Region.noSelect_spec hB.1
  -- all that come first are done
  have full : ∀ (fuel : Nat) (listed : Array Bool) (w : World) (vs : Nat → Value), (List.range l.length).countP (fun i => !listed.getD i false) = fuel → listed.size = l.length → (∀ i, i < l.length → fb i = false → listed.getD i false = false) →
      (∀ i o, l[i]? = some o → listed.getD i false = true → ∀ e ∈ o.after, Region.binds md e = true → listed.getD e.on false = true) → C w →
      (∀ i, listed.getD i false = true → F i (vs i) w) → (∀ i j, i ≠ j → listed.getD i false = true → listed.getD j false = true → Prior4 F G H i j (vs i) (vs j) w ∨ Prior4 F G H j i (vs j) (vs i) w) → (∀ i, i < l.length → fb i = true → listed.getD i false = true) → wpAny P md l.toArray Q fuel listed (stL l 0 (fun i => listed.getD i false) vs a) w := by
    intro fuel listed w vs hc hsz ht hcl hC hF hP hfull
    have hl : ∀ i, i < l.length → listed.getD i false = fb i := fun i hi => by
      cases h : fb i with
      | true => exact hfull i hi h
      | false => exact ht i hi h
    have hfuel : ((List.range l.length).filter fun i => !fb i).length = fuel := by
      rw [← hc, ← List.countP_eq_length_filter]
      exact List.countP_congr fun i hi => by rw [hl i (List.mem_range.1 hi)]
    rw [← hfuel]
    have hsort : ((List.range l.length).filter fun i => !fb i).Pairwise (· < ·) := List.Pairwise.filter _ List.pairwise_lt_range
    refine wpAny_tail2 hB _ listed _ w hsort (fun r hr => ?_) hsz (fun i hi => ?_) hcl ?_
    · rw [List.mem_filter, List.mem_range] at hr
      exact ⟨by simpa using hr.2, hr.1⟩
    · rw [hl i hi]
      have : ((List.range l.length).filter fun i => !fb i).contains i = !fb i := by
        rw [List.contains_eq_mem]
        cases h : fb i <;> simp [List.mem_filter, h, hi]
      rw [this, Bool.not_not]
    · have := hf vs w hC (fun i hi hfi => hF i (hfull i hi hfi)) (fun i j hi hj hfi hfj hn => hP i j hn (hfull i hi hfi) (hfull j hj hfj))
      rw [stL_congr l 0 _ fb vs vs a (fun i _ hi => ⟨hl i (by omega), fun _ => rfl⟩)]
      exact this
  intro fuel
  induction fuel with
  | zero =>
    intro listed w vs hc hsz ht hcl hC hF hP
    have hall := cnt_zero hc
    exact full 0 listed w vs hc hsz ht hcl hC hF hP (fun i hi _ => by simpa using hall i hi)
  | succ fuel ih =>
    intro listed w vs hc hsz ht hcl hC hF hP
    by_cases hfull : ∀ i, i < l.length → fb i = true → listed.getD i false = true
    · exact full (fuel + 1) listed w vs hc hsz ht hcl hC hF hP hfull
    · obtain ⟨m, hmN, hmun, hmin⟩ : ∃ m, (m < l.length ∧ fb m = true) ∧ listed.getD m false = false ∧ ∀ i, i < m → fb i = true → listed.getD i false = true := by
        have : ∃ m, (m < l.length ∧ fb m = true) ∧ listed.getD m false = false := by
          rcases Classical.not_forall.1 hfull with ⟨m, hm⟩
          rw [Classical.not_imp, Classical.not_imp] at hm
          exact ⟨m, ⟨hm.1, hm.2.1⟩, by simpa using hm.2.2⟩
        obtain ⟨m, h1, h2⟩ := this
        clear hfull
        induction m using Nat.strongRecOn with
        | _ m ihm =>
          by_cases h : ∃ i, i < m ∧ fb i = true ∧ listed.getD i false = false
          · obtain ⟨i, hi, hfi, hi2⟩ := h
            exact ihm i hi ⟨by omega, hfi⟩ hi2
          · refine ⟨m, h1, h2, fun i hi hfi => ?_⟩
            cases hv : listed.getD i false with
            | true => rfl
            | false => exact absurd ⟨i, hi, hfi, hv⟩ h
      have hgt : ∀ i, i < l.length → ∀ d, listed.getD i d = listed.getD i false := fun i hi d => by
        rw [Array.getD_eq_getD_getElem?, Array.getD_eq_getD_getElem?, Array.getElem?_eq_getElem (by omega)]
        rfl
      obtain ⟨om, hom⟩ : ∃ o, l[m]? = some o := ⟨_, List.getElem?_eq_getElem hmN.1⟩
      have hmdeps : ∀ e ∈ om.after, Region.binds md e = true → listed.getD e.on false = true := fun e he hb => by
        have := (grow2B_spec hB hom).2.2.1 e he hb
        exact hmin e.on this.1 (this.2 hmN.2)
      have hready : m ∈ Region.ready md l.toArray listed := by
        rw [mem_ready]
        exact ⟨by rw [hgt m hmN.1]; exact hmun, om, by simpa using hom, hmdeps⟩
      have go : ∀ (j : Nat) (o : Oper) v w', fb j = true → l[j]? = some o → listed.getD j false = false → (∀ e ∈ o.after, Region.binds md e = true → listed.getD e.on false = true) → F j v w' → G j v w w' → wpAny P md l.toArray Q fuel (listed.setIfInBounds j true) ((stL l 0 (fun i => listed.getD i false) vs a).put o.dst v) w' := by
        intro j o v w' hjN ho h1 h2 hFv hG
        obtain ⟨_, _, _, hall⟩ := grow2B_spec hB ho
        have hlt := (List.getElem?_eq_some_iff.1 ho).1
        obtain ⟨hC', hst', hrfl, htr⟩ := hst j v w w' hC hG
        have hadd := stL_add l 0 j (fun i => listed.getD i false) vs a o v ho (by rw [Nat.zero_add]; exact h1) (fun i o' hi hne d hd => (hall i o' hi).1 (fun e => hne e.symm) d hd)
        simp only [Nat.zero_add] at hadd
        have hget : ∀ i, (listed.setIfInBounds j true).getD i false = (listed.getD i false || i == j) := fun i => by
          by_cases e : j = i
          · subst e
            rw [Array.getD_eq_getD_getElem?, Array.getElem?_setIfInBounds_self_of_lt (by omega)]
            simp
          · rw [getD_set_ne false e]
            have : (i == j) = false := by simp; exact fun h => e h.symm
            rw [this, Bool.or_false]
        rw [← hadd, ← stL_congr l 0 (fun i => (listed.setIfInBounds j true).getD i false) _ (fun i => if i = j then v else vs i) _ a (fun i _ _ => ⟨hget i, fun _ => rfl⟩)]
        refine ih (listed.setIfInBounds j true) w' (fun i => if i = j then v else vs i) ?_ (by simpa using hsz) (fun i hi hNi => ?_) (fun i o' ho' hi e he hb => ?_) hC' (fun i hl => ?_) (fun i i' hne hl hl' => ?_)
        · have := cnt_set l.length (fun i => !listed.getD i false) (fun i => !(listed.setIfInBounds j true).getD i false) j hlt (by rw [h1]; rfl) (by rw [hget]; simp) (fun i hi => by rw [hget]; simp [hi])
          omega
        · rw [hget, ht i hi hNi]
          have : (i == j) = false := by
            simp
            intro e
            subst e
            rw [hjN] at hNi; cases hNi
          rw [this]; rfl
        · rw [hget] at hi ⊢
          rcases Bool.or_eq_true_iff.1 hi with hi | hi
          · rw [hcl i o' ho' hi e he hb]; rfl
          · have : i = j := by simpa using hi
            subst this
            rw [ho] at ho'
            injection ho' with ho'
            subst ho'
            rw [h2 e he hb]; rfl
        · rw [hget] at hl
          by_cases e : i = j
          · subst e; simpa using hFv
          · rw [if_neg e]
            have : (i == j) = false := by simp [e]
            rw [this, Bool.or_false] at hl
            refine hst' i ?_ _ (hF i hl)
            cases hfi : fb i with
            | true => rfl
            | false =>
              have hil : i < l.length := by
                rcases Nat.lt_or_ge i listed.size with h | h
                · omega
                · rw [Array.getD_eq_getD_getElem?, Array.getElem?_eq_none h] at hl; simp at hl
              rw [ht i hil hfi] at hl; cases hl
        · rw [hget] at hl hl'
          by_cases e : i = j
          · subst e
            have e' : (i' == i) = false := by simp; exact fun h => hne h.symm
            rw [e', Bool.or_false] at hl'
            have e2 : ¬ i' = i := fun h => hne h.symm
            simp only [if_true, e2, if_false]
            exact .inr ⟨w, w', hF i' hl', hG, hrfl⟩
          · have e1 : (i == j) = false := by simp; exact e
            rw [e1, Bool.or_false] at hl
            by_cases e' : i' = j
            · subst e'
              simp only [if_true, e, if_false]
              exact .inl ⟨w, w', hF i hl, hG, hrfl⟩
            · have e2 : (i' == j) = false := by simp; exact e'
              rw [e2, Bool.or_false] at hl'
              simp only [e, e', if_false]
              exact (hP i i' hne hl hl').imp (fun ⟨x, y, f, g, h⟩ => ⟨x, y, f, g, htr y h⟩) (fun ⟨x, y, f, g, h⟩ => ⟨x, y, f, g, htr y h⟩)
      have dl : ∀ o, (∀ e ∈ o.after, Region.binds md e = true → listed.getD e.on false = true) → ∀ i, depsB md o i = true → listed.getD i false = true := fun o h2 i hi => by
        obtain ⟨e, he, hb, rfl⟩ := depsB_mem hi
        exact h2 e he hb
      have alike : ∀ (j : Nat) (o : Oper), l[j]? = some o → (∀ e ∈ o.after, Region.binds md e = true → listed.getD e.on false = true) → Alike2 o (stL l 0 (fun i => listed.getD i false) vs a) (stL l 0 (depsB md o) vs a) := by
        intro j o ho h2
        obtain ⟨_, _, hdep, hall⟩ := grow2B_spec hB ho
        refine stL_alike l 0 _ _ vs a a (fun i o' hi hne d hd => ?_) ⟨rfl, fun _ _ => rfl⟩
        rw [Nat.zero_add] at hne
        refine (hall i o' hi).2.1 ?_ d hd
        cases hdp : depsB md o i with
        | false => rfl
        | true => rw [dl o h2 i hdp, hdp] at hne; exact absurd rfl hne
      by_cases hlg : ∀ i, i < l.length → fb i = true → listed.getD i false = false → ls i = true
      · obtain ⟨hg, hdst, hdep, hall⟩ := grow2B_spec hB hom
        have hal := alike m om hom hmdeps
        have hsm : ∀ cs b, om.op ≠ .select cs b := fun cs b => hsel m om cs b (by simpa using hom)
        obtain ⟨v, hrun, hFv⟩ := hlag m om hom hmN.2 (hlg m hmN.1 hmN.2 hmun) vs w hC (fun i hi => hF i (dl om hmdeps i hi))
        have hrun2 : ∀ w', (execOp (stL l 0 (fun i => listed.getD i false) vs a).eval om).run P w' = .ok (.value v) w' := fun w' => by
          rw [execOp_congr om hsm (fun x hx => hal.2 x hx)]; exact hrun w'
        refine wpAny_first (i := m) (oi := om) (v := v) (by simpa using hom) hsel (fun c a w h => absurd h (hQ _ _ _)) fuel listed _ w (fun j oj hj hne hun hno => ?_) hready (.inl ⟨by simp [Region.wanted, hg], hrun2⟩) ?_
        · have hj' : l[j]? = some oj := by simpa using hj
          have hjl := (List.getElem?_eq_some_iff.1 hj').1
          obtain ⟨hgj, _, _, hallj⟩ := grow2B_spec hB hj'
          have hjm : depsB md oj m = false := by
            cases hdp : depsB md oj m with
            | false => rfl
            | true =>
              obtain ⟨e, he, hb, h⟩ := depsB_mem hdp
              exact absurd h (hno e he hb)
          have hmj : depsB md om j = false := by
            cases hdp : depsB md om j with
            | false => rfl
            | true =>
              obtain ⟨e, he, hb, h⟩ := depsB_mem hdp
              have h3 := hmdeps e he hb
              rw [h, ← hgt j hjl true, hun] at h3; cases h3
          have looks : ∀ (o : Oper) (d : Tmp), o.guard = none → .tmp d ∉ o.op.operands → d ∉ o.looksAt l.toArray := fun o d hg hn hm => by
            unfold Oper.looksAt at hm
            rw [hg] at hm
            simp only [List.append_nil, List.mem_filterMap] at hm
            obtain ⟨x, hx, hx2⟩ := hm
            cases x with
            | tmp t =>
              simp at hx2
              subst hx2
              exact hn (by simpa using hx)
            | _ => simp at hx2
          unfold Oper.apart
          rw [Bool.and_eq_true]
          refine ⟨?_, ?_⟩
          · cases hd : om.dst with
            | none => rfl
            | some d =>
              simp only [Bool.and_eq_true, Bool.not_eq_true']
              refine ⟨?_, ?_⟩
              · have := looks oj d hgj ((hallj m om hom).2.1 hjm d hd)
                simpa using this
              · have := (hall j oj hj').1 (fun e => hne e.symm) d hd
                simpa using this
          · cases hd : oj.dst with
            | none => rfl
            | some d =>
              have := looks om d hg ((hall j oj hj').2.1 hmj d hd)
              simpa using this
        · exact go m om v w hmN.2 hom hmun hmdeps hFv (hrf m v w (hlg m hmN.1 hmN.2 hmun) hC)
      · have hlag2 : ∃ i, i < l.length ∧ fb i = true ∧ listed.getD i false = false ∧ ls i = false := Classical.byContradiction fun hc => hlg fun i h1 h2 h3 => by
          cases h4 : ls i with
          | true => rfl
          | false => exact absurd ⟨i, h1, h2, h3, h4⟩ hc
        obtain ⟨i0, hi0, hf0, hun0, hl0⟩ := hlag2
        obtain ⟨o0, ho0⟩ : ∃ o, l[i0]? = some o := ⟨_, List.getElem?_eq_getElem hi0⟩
        refine ⟨fun h0 => absurd hready (by rw [h0]; simp), fun j hj => ?_⟩
        obtain ⟨h1, o, ho', h2⟩ := mem_ready.1 hj
        have ho : l[j]? = some o := by simpa using ho'
        have hlt := (List.getElem?_eq_some_iff.1 ho).1
        rw [hgt j hlt] at h1
        obtain ⟨hg, hdst, hdep, hall⟩ := grow2B_spec hB ho
        have hjN : fb j = true := by
          cases hfj : fb j with
          | true => rfl
          | false =>
            rcases ((hall i0 o0 ho0).2.2 hfj).1 hf0 with h3 | h3
            · rw [hl0] at h3; cases h3
            · have := anc_listed hcl _ _ _ _ ho h2 h3
              rw [hun0] at this; cases this
        have hstep := steps7_at l 0 j o hs ho (by rw [Nat.zero_add]; exact hjN) vs w hC (fun i hi => hF i (dl o h2 i hi))
        rw [Nat.zero_add] at hstep
        have hw : Region.wanted o (yielded l.toArray (stL l 0 (fun i => listed.getD i false) vs a).tmps) = true := by simp [Region.wanted, hg]
        unfold wpOp
        simp only [ho', hw, if_true]
        left
        exact wp_move_frame hg (fun cs b => hsel j o cs b ho') (alike j o ho h2) (fun d hd => by rw [stL_size]; exact hdst d hd) hstep (fun v w' h => go j o v w' hjN ho h1 h2 h.1 h.2)
end
theorem wp_region_grow7 {P : Program} {id : Nat} {Q : Exit → Act → World → Prop} {a : Act} {w : World} {l : List Oper} (fb ls : Nat → Bool) (C : World → Prop) (G : Nat → Value → World → World → Prop) (H : World → World → Prop) (F : Nat → Value → World → Prop) (hm : P.follows .mixedOrders = true) (hB : grow2B .any fb ls a.tmps.size l = true)
    (hC : C w.drew) (hst : ∀ j x w w', C w → G j x w w' → C w' ∧ (∀ i, fb i = true → ∀ v, F i v w → F i v w') ∧ H w' w' ∧ ∀ w0, H w0 w → H w0 w') (hrf : ∀ j v w, ls j = true → C w → G j v w w) (hs : steps7 P .any l fb a C G F 0 l)
    (hlag : ∀ j o, l[j]? = some o → fb j = true → ls j = true → ∀ vs w, C w → (∀ i, depsB .any o i = true → F i (vs i) w) → ∃ v, (∀ w', (execOp (stL l 0 (depsB .any o) vs a).eval o).run P w' = .ok (.value v) w') ∧ F j v w)
    (hf : ∀ vs w', C w' → (∀ i, i < l.length → fb i = true → F i (vs i) w') → (∀ i j, i < l.length → j < l.length → fb i = true → fb j = true → i ≠ j → Prior4 F G H i j (vs i) (vs j) w' ∨ Prior4 F G H j i (vs j) (vs i) w') → wpList P l.toArray (fun e b w => e = .normal ∧ Q .normal b w) (((List.range l.length).filter fun i => !fb i).filterMap fun i => l[i]?) (stL l 0 fb vs a) w') : (Code.region id l.toArray true).wp P Q a w := by
  refine Code.wp_mono (Q := fun e b w => e = .normal ∧ Q .normal b w) (fun e b w h => by obtain ⟨rfl, h⟩ := h; exact h) ?_
  refine wp_region_any hm ?_
  have hn : ∀ i, (Array.replicate l.toArray.size false).getD i false = false := fun i => by
    simp [Array.getD_eq_getD_getElem?, Array.getElem?_replicate]
    split <;> rfl
  have h0 : stL l 0 (fun i => (Array.replicate l.toArray.size false).getD i false) (fun _ => undef) a = a := by
    rw [stL_congr l 0 _ (fun _ => false) (fun _ => undef) (fun _ => undef) a (fun i _ hi => ⟨hn i, fun _ => rfl⟩)]
    exact stL_none _ _ _ _
  have := wpAny_grow7 (Q := fun e b w => e = .normal ∧ Q .normal b w) (C := C) (G := G) (H := H) (F := F) (fun c a w h => absurd h.1 (by simp)) hB hst hrf hs hlag hf l.toArray.size (Array.replicate l.toArray.size false) w.drew (fun _ => undef) (by
    rw [List.countP_eq_length.2 (fun i hi => by rw [hn]; rfl)]
    simp) (by simp) (fun i hi _ => hn i) (fun i o _ h => by rw [hn] at h; cases h) hC (fun i h => by rw [hn] at h; cases h) (fun i j _ h => by rw [hn] at h; cases h)
  rw [h0] at this
  exact this
end Go.Proofs.Ytmdfgidejdiiiaa
end
section
namespace Go.Proofs.Ytmdfgidejdiiiaa
open Go.RowKit
def TyB (w : World) (q : Nat) (t : TypeId) : Prop := ∃ cs r, w.heap[q]? = some (.cells cs t r)
theorem TyB.lt {w : World} {q : Nat} {t : TypeId} (h : TyB w q t) : q < w.heap.size := by
  obtain ⟨cs, r, e⟩ := h
  exact (Array.getElem?_eq_some_iff.1 e).1
theorem TyB.grow {w w' : World} {q : Nat} {t : TypeId} (h : TyB w q t) (hb : Below w.heap.size w w') : TyB w' q t := by
  have hl := h.lt
  obtain ⟨cs, r, e⟩ := h
  exact ⟨cs, r, (hb.block q hl).trans e⟩
theorem TyB.kept {w w' : World} {q g : Nat} {t : TypeId} (h : TyB w q t) (hg : w.grownBy w' (some g)) (hn : q ≠ g) : TyB w' q t := by
  have hl := h.lt
  obtain ⟨cs, r, e⟩ := h
  exact ⟨cs, r, (hg.block q hl (fun e => hn (by injection e))).trans e⟩
theorem TyB.apart {w : World} {q g : Nat} {s t : TypeId} (h : TyB w q s) (h' : TyB w g t) (hn : s ≠ t) : q ≠ g := by
  rintro rfl
  obtain ⟨cs, r, e⟩ := h
  obtain ⟨cs', r', e'⟩ := h'
  rw [e] at e'
  injection e' with e'
  injection e' with _ e2 _
  exact hn e2
theorem TyB.new {w : World} {cs : Array Value} {t : TypeId} : TyB (w.alloc (.cells cs t)) w.heap.size t := ⟨_, _, heap_alloc_new w _⟩
def DigB (b : Nat) (w : World) (A : Option Addr) (l : List Int) : Prop := DigA w A l ∧ (l ≠ [] → ∀ a, A = some a → a.block < b ∨ TyB w a.block 77)
theorem DigB.grow {b : Nat} {w w' : World} {A : Option Addr} {l : List Int} (h : DigB b w A l) (hb : Below w.heap.size w w') : DigB b w' A l := ⟨h.1.grow hb, fun n a e => (h.2 n a e).imp id fun t => t.grow hb⟩
theorem DigB.more {b b' : Nat} {w : World} {A : Option Addr} {l : List Int} (h : DigB b w A l) (hb : b ≤ b') : DigB b' w A l := ⟨h.1, fun n a e => (h.2 n a e).imp (fun t => Nat.lt_of_lt_of_le t hb) id⟩
theorem DigA.keptL {w w' : World} {A : Option Addr} {l : List Int} {g : Nat} (h : DigA w A l) (hg : w.grownBy w' (some g)) (hn : l ≠ [] → ∀ a, A = some a → a.block ≠ g) : DigA w' A l := ⟨fun k v hk => by
  obtain ⟨ad, e, hb, hc⟩ := h.1 k v hk
  have hl : l ≠ [] := by intro e; rw [e] at hk; simp at hk
  have hne := hn hl ad e
  refine ⟨ad, e, Nat.lt_of_lt_of_le hb hg.size, ?_⟩
  exact (World.cell?_of_block (a := ad.add k) (by rw [block_add]; exact hg.block ad.block hb (fun e => hne (by injection e)))).trans hc, h.2⟩
theorem DigB.kept {b g : Nat} {w w' : World} {A : Option Addr} {l : List Int} {t : TypeId} (h : DigB b w A l) (hg : w.grownBy w' (some g)) (hb : b ≤ g) (ht : TyB w g t) (hn : t ≠ 77) : DigB b w' A l := by
  have hne : l ≠ [] → ∀ a, A = some a → a.block ≠ g := fun n a e => by
    rcases h.2 n a e with h | h
    · omega
    · exact h.apart ht (Ne.symm hn)
  refine ⟨h.1.keptL hg hne, fun n a e => (h.2 n a e).imp id fun t => t.kept hg (hne n a e)⟩
theorem OwG.ty {b : Nat} {w : World} {A : Option Addr} {n c : Nat} {l : List Int} (h : OwG b w (.slice A n c) l) (a : Addr) (e : A = some a) : TyB w a.block 77 := by
  subst e
  rcases h.1.2 with ⟨e, -⟩ | ⟨g, cap, cur, e, -, hh, -⟩
  · injection e with e; cases e
  · injection e with e
    injection e with e
    subst e
    exact ⟨_, _, hh⟩
theorem OwG.digB {b b' : Nat} {w : World} {A : Option Addr} {n c : Nat} {l : List Int} (h : OwG b w (.slice A n c) l) : DigB b' w A l := ⟨h.digA, fun _ a e => .inr (h.ty a e)⟩
theorem DigA.digB {w : World} {A : Option Addr} {l : List Int} (h : DigA w A l) : DigB w.heap.size w A l := ⟨h, fun n a e => .inl (by
  obtain ⟨x, hx⟩ := List.exists_mem_of_ne_nil l n
  obtain ⟨k, hk⟩ := List.getElem?_of_mem hx
  obtain ⟨ad, e2, hb, -⟩ := h.1 k (.int .u32 x) (by simp [hk])
  rw [e] at e2
  injection e2 with e2
  rw [e2]; exact hb)⟩
def SlB (b : Nat) (w : World) (v : Value) (l : List Int) (K : Nat) : Prop := ∃ A n c, v = .slice A n c ∧ DigB b w A l ∧ l.length = n ∧ n ≤ c ∧ n ≤ K
theorem SlB.grow {b : Nat} {w w' : World} {v : Value} {l : List Int} {K : Nat} (h : SlB b w v l K) (hb : Below w.heap.size w w') : SlB b w' v l K := by
  obtain ⟨A, n, c, e, d, r⟩ := h; exact ⟨A, n, c, e, d.grow hb, r⟩
theorem SlB.more {b b' : Nat} {w : World} {v : Value} {l : List Int} {K : Nat} (h : SlB b w v l K) (hb : b ≤ b') : SlB b' w v l K := by
  obtain ⟨A, n, c, e, d, r⟩ := h; exact ⟨A, n, c, e, d.more hb, r⟩
theorem SlB.kept {b g : Nat} {w w' : World} {v : Value} {l : List Int} {K : Nat} {t : TypeId} (h : SlB b w v l K) (hg : w.grownBy w' (some g)) (hb : b ≤ g) (ht : TyB w g t) (hn : t ≠ 77) : SlB b w' v l K := by
  obtain ⟨A, n, c, e, d, r⟩ := h; exact ⟨A, n, c, e, d.kept hg hb ht hn, r⟩
theorem SlB.le {b : Nat} {w : World} {v : Value} {l : List Int} {K M : Nat} (h : SlB b w v l K) (hb : K ≤ M) : SlB b w v l M := by
  obtain ⟨A, n, c, e, d, r1, r2, r3⟩ := h; exact ⟨A, n, c, e, d, r1, r2, Nat.le_trans r3 hb⟩
def frac (neg : Bool) (l r : List Int) : Rat := (sgn neg (nv l) : Rat) / (nv r : Rat)
def RatA (w : World) (v : Value) (z : Rat) (K : Nat) : Prop := ∃ neg A n c l B m d r, v = .agg #[.bool neg, .slice A n c, .slice B m d] ∧ (DigA w A l ∧ l.length = n ∧ n ≤ c ∧ n ≤ K) ∧ (DigA w B r ∧ r.length = m ∧ m ≤ d ∧ m ≤ K) ∧ z = frac neg l r
theorem RatA.grow {w w' : World} {v : Value} {z : Rat} {K : Nat} (h : RatA w v z K) (hb : Below w.heap.size w w') : RatA w' v z K := by
  obtain ⟨neg, A, n, c, l, B, m, d, r, e, ⟨h1, h2⟩, ⟨h3, h4⟩, h5⟩ := h
  exact ⟨neg, A, n, c, l, B, m, d, r, e, ⟨h1.grow hb, h2⟩, ⟨h3.grow hb, h4⟩, h5⟩
theorem RatA.le {w : World} {v : Value} {z : Rat} {K M : Nat} (h : RatA w v z K) (hm : K ≤ M) : RatA w v z M := by
  obtain ⟨neg, A, n, c, l, B, m, d, r, e, ⟨h1, h2, h2', h2''⟩, ⟨h3, h4, h4', h4''⟩, h5⟩ := h
  exact ⟨neg, A, n, c, l, B, m, d, r, e, ⟨h1, h2, h2', by omega⟩, ⟨h3, h4, h4', by omega⟩, h5⟩
def RatQ (b : Nat) (w : World) (v : Value) (z : Rat) (K : Nat) : Prop := ∃ p q : Int, RatO b w v p q K K ∧ 0 < q ∧ z = (p : Rat) / (q : Rat)
theorem RatQ.grow {b : Nat} {w w' : World} {v : Value} {z : Rat} {K : Nat} (h : RatQ b w v z K) (hb : Below w.heap.size w w') : RatQ b w' v z K := by
  obtain ⟨p, q, h, r⟩ := h; exact ⟨p, q, h.grow hb, r⟩
theorem RatQ.away {b g : Nat} {w w' : World} {v : Value} {z : Rat} {K : Nat} (h : RatQ b w v z K) (hb : w.grownBy w' (some g)) (hg : g < b) : RatQ b w' v z K := by
  obtain ⟨p, q, h, r⟩ := h; exact ⟨p, q, h.away hb hg, r⟩
theorem RatQ.base {b b' : Nat} {w : World} {v : Value} {z : Rat} {K : Nat} (h : RatQ b w v z K) (hb : b' ≤ b) : RatQ b' w v z K := by
  obtain ⟨p, q, h, r⟩ := h; exact ⟨p, q, h.base hb, r⟩
theorem RatO.le {b : Nat} {w : World} {v : Value} {p q : Int} {K M K' M' : Nat} (h : RatO b w v p q K M) (h1 : K ≤ K') (h2 : M ≤ M') : RatO b w v p q K' M' := by
  obtain ⟨n, A, c, l, B, d, r, e, ⟨o, o', o''⟩, t, t', t''⟩ := h; exact ⟨n, A, c, l, B, d, r, e, ⟨o, by omega, o''⟩, t, by omega, t''⟩
theorem RatQ.le {b : Nat} {w : World} {v : Value} {z : Rat} {K M : Nat} (h : RatQ b w v z K) (hm : K ≤ M) : RatQ b w v z M := by
  obtain ⟨p, q, h, r⟩ := h; exact ⟨p, q, h.le hm hm, r⟩
theorem RatQ.arg {b : Nat} {w : World} {v : Value} {z : Rat} {K : Nat} (h : RatQ b w v z K) : RatA w v z K := by
  obtain ⟨p, q, ⟨n, A, c, l, B, d, r, e, ⟨o, o', o''⟩, t, t', t''⟩, h0, hz⟩ := h
  refine ⟨n, A, _, c, l, B, _, d, r, e, ⟨o.digA, rfl, o.len.2, o'⟩, ⟨t.digA, rfl, t.len.2, t'⟩, ?_⟩
  rw [hz]; unfold frac; rw [o'', t'']
theorem RatQ.form {b : Nat} {w : World} {v : Value} {z : Rat} {K : Nat} (h : RatQ b w v z K) : ∃ ng A n c B m d, v = .agg #[.bool ng, .slice A n c, .slice B m d] := by
  obtain ⟨p, q, ⟨n, A, c, l, B, d, r, e, -⟩, -⟩ := h
  exact ⟨_, _, _, _, _, _, _, e⟩
def RetQ (w : World) (z : Rat) (K : Nat) (e : Ending) (w' : World) : Prop := ∃ v, e = .returned v ∧ RatQ w.heap.size w' v z K ∧ Below w.heap.size w w'
theorem cast_pos {q : Int} (h : 0 < q) : (q : Rat) ≠ 0 := by
  intro e
  have : q = 0 := Rat.intCast_inj.1 (by simpa using e)
  omega
theorem frac_eq {p q P Q : Int} (h1 : 0 < q) (h2 : 0 < Q) (h : p * Q = P * q) : (p : Rat) / (q : Rat) = (P : Rat) / (Q : Rat) := by
  have a := cast_pos h1
  have b := cast_pos h2
  have c : (p : Rat) * (Q : Rat) = (P : Rat) * (q : Rat) := by rw [← Rat.intCast_mul, ← Rat.intCast_mul, h]
  rw [Rat.div_def, Rat.div_def]
  have e1 : (p : Rat) * (q : Rat)⁻¹ = (p : Rat) * (Q : Rat) * ((Q : Rat)⁻¹ * (q : Rat)⁻¹) := by
    rw [Rat.mul_assoc, ← Rat.mul_assoc (Q : Rat), Rat.mul_inv_cancel _ b, Rat.one_mul]
  rw [e1, c, Rat.mul_comm (Q : Rat)⁻¹, Rat.mul_assoc, ← Rat.mul_assoc (q : Rat), Rat.mul_inv_cancel _ a, Rat.one_mul]
theorem RatE.rq {b : Nat} {w : World} {v : Value} {P Q : Int} {K M N : Nat} (h : RatE b w v P Q K M) (h0 : 0 < Q) (h1 : K ≤ N) (h2 : M ≤ N) : RatQ b w v ((P : Rat) / (Q : Rat)) N := by
  obtain ⟨p, q, o, e, hq⟩ := h
  exact ⟨p, q, o.le h1 h2, hq, (frac_eq hq h0 e).symm⟩
def NumA (b : Nat) (w : World) (v : Value) (z : Rat) (K : Nat) : Prop := ∃ ng A n c l B m d r wh, v = .agg #[.bool ng, .slice A n c, .slice B m d, .bool wh] ∧ (DigB b w A l ∧ l.length = n ∧ n ≤ c ∧ n ≤ K) ∧ (DigB b w B r ∧ r.length = m ∧ m ≤ d ∧ m ≤ K) ∧ (0 < nv r ∧ (wh = true → nv r = 1)) ∧ z = frac ng l r
theorem NumA.grow {b : Nat} {w w' : World} {v : Value} {z : Rat} {K : Nat} (h : NumA b w v z K) (hb : Below w.heap.size w w') : NumA b w' v z K := by
  obtain ⟨ng, A, n, c, l, B, m, d, r, wh, e, ⟨h1, h2⟩, ⟨h3, h4⟩, h5⟩ := h
  exact ⟨ng, A, n, c, l, B, m, d, r, wh, e, ⟨h1.grow hb, h2⟩, ⟨h3.grow hb, h4⟩, h5⟩
theorem NumA.more {b b' : Nat} {w : World} {v : Value} {z : Rat} {K : Nat} (h : NumA b w v z K) (hb : b ≤ b') : NumA b' w v z K := by
  obtain ⟨ng, A, n, c, l, B, m, d, r, wh, e, ⟨h1, h2⟩, ⟨h3, h4⟩, h5⟩ := h
  exact ⟨ng, A, n, c, l, B, m, d, r, wh, e, ⟨h1.more hb, h2⟩, ⟨h3.more hb, h4⟩, h5⟩
theorem NumA.kept {b g : Nat} {w w' : World} {v : Value} {z : Rat} {K : Nat} {t : TypeId} (h : NumA b w v z K) (hg : w.grownBy w' (some g)) (hb : b ≤ g) (ht : TyB w g t) (hn : t ≠ 77) : NumA b w' v z K := by
  obtain ⟨ng, A, n, c, l, B, m, d, r, wh, e, ⟨h1, h2⟩, ⟨h3, h4⟩, h5⟩ := h
  exact ⟨ng, A, n, c, l, B, m, d, r, wh, e, ⟨h1.kept hg hb ht hn, h2⟩, ⟨h3.kept hg hb ht hn, h4⟩, h5⟩
theorem frac_zero {neg : Bool} {l r : List Int} (h : nv r = 0) : frac neg l r = 0 := by
  unfold frac
  rw [h]
  simp [Rat.div_def]
def RetNumB (b : Nat) (w : World) (z : Rat) (K : Nat) (e : Ending) (w' : World) : Prop := ∃ v, e = .returned v ∧ NumA b w' v z K ∧ Below w.heap.size w w'
theorem rt_readB (v : Value) (z : Rat) (K : Nat) (w0 w : World) (h : RatA w0 v z K) (hw : Below w0.heap.size w0 w) (hK : 1 ≤ K) (h9 : K ≤ 1000000) : Calls Try.prog 86 #[v] w (RetNumB w0.heap.size w z K) := by
  obtain ⟨neg, A, n, c, l, B, m, d, r, rfl, ⟨h1, h2, h2', h2''⟩, ⟨h3, h4, h4', h4''⟩, rfl⟩ := h
  have old : ∀ (wh : Bool), 0 < nv r ∧ (wh = true → nv r = 1) → ∀ e w', RetV w (.agg #[.bool neg, .slice A n c, .slice B m d, .bool wh]) e w' → RetNumB w0.heap.size w (frac neg l r) K e w' := by
    rintro wh h0 e w' ⟨rfl, hb⟩
    exact ⟨_, rfl, ⟨neg, A, n, c, l, B, m, d, r, wh, rfl, ⟨(h1.digB.grow hw).grow hb, h2, h2', h2''⟩, ⟨(h3.digB.grow hw).grow hb, h4, h4', h4''⟩, h0, rfl⟩, hb⟩
  have new : nv r = 0 → ∀ e w', RetZ w e w' → RetNumB w0.heap.size w (frac neg l r) K e w' := by
    rintro h0 e w' ⟨g, rfl, o, hb⟩
    refine ⟨_, rfl, ⟨false, none, 0, 0, [], _, 1, 1, [1], true, rfl, ⟨⟨DigA.nil, fun h => absurd rfl h⟩, rfl, Nat.le_refl _, by omega⟩, ⟨o.digB, rfl, Nat.le_refl _, by omega⟩, ⟨by decide, fun _ => by decide⟩, ?_⟩, hb⟩
    rw [frac_zero h0]
    simp [frac, sgn, nv, Rat.div_def]
  have hp := nv_low h3.dig
  by_cases hm : m = 1
  · by_cases hr : r = [1]
    · subst hr
      subst hm
      exact (rt_read_one neg A B n c d w (h3.grow hw)).mono (old true ⟨by decide, fun _ => by decide⟩)
    · by_cases h0 : nv r = 0
      · exact (rt_read_zero1 neg A B n c m d r w (h3.grow hw) h4 h4' (by omega) hm hr h0).mono (new h0)
      · exact (rt_read_big1 neg A B n c m d r w (h3.grow hw) h4 h4' (by omega) hm hr h0).mono (old false ⟨by omega, fun h => by cases h⟩)
  · by_cases h0 : nv r = 0
    · exact (rt_read_zero neg A B n c m d r w (h3.grow hw) h4 h4' (by omega) hm h0).mono (new h0)
    · exact (rt_read_big neg A B n c m d r w (h3.grow hw) h4 h4' (by omega) hm h0).mono (old false ⟨by omega, fun h => by cases h⟩)
end Go.Proofs.Ytmdfgidejdiiiaa
end
