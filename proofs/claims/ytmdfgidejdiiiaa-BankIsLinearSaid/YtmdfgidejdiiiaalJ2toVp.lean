/- Several texts in one: J2 Mp Mq Mj Mn Nc Vp. -/
import Derived.Test.YtmdfgidejdiiiaalJ
import Derived.Test.YtmdfgidejdiiiaalPltoZa
set_option linter.unusedVariables false
set_option linter.unusedSimpArgs false
section
namespace Go.Proofs.Ytmdfgidejdiiiaa
open Go.RowKit
section
variable {P : Program} {md : Region.Mode}
def ancB (md : Region.Mode) (l : List Oper) : Nat → Nat → Nat → Bool
  | 0, _, _ => false
  | f + 1, i, j => match l[i]? with
    | none => false
    | some o => o.after.toList.any fun e => Region.binds md e && (e.on == j || ancB md l f e.on j)
theorem anc_listed {l : List Oper} {listed : Array Bool} (hcl : ∀ i o, l[i]? = some o → listed.getD i false = true → ∀ e ∈ o.after, Region.binds md e = true → listed.getD e.on false = true) :
    ∀ (f i j : Nat) (o : Oper), l[i]? = some o → (∀ e ∈ o.after, Region.binds md e = true → listed.getD e.on false = true) → ancB md l f i j = true → listed.getD j false = true
  | 0, _, _, _, _, _, h => by simp [ancB] at h
  | f + 1, i, j, o, ho, hd, h => by
    simp only [ancB, ho, List.any_eq_true, Bool.and_eq_true, Bool.or_eq_true] at h
    obtain ⟨e, he, hb, h⟩ := h
    have he' : e ∈ o.after := by simpa using he
    have hl := hd e he' hb
    rcases h with h | h
    · have : e.on = j := by simpa using h
      rw [← this]; exact hl
    · cases ho2 : l[e.on]? with
      | none => cases f with
        | zero => simp [ancB] at h
        | succ f => simp [ancB, ho2] at h
      | some o2 => exact anc_listed hcl f e.on j o2 ho2 (hcl e.on o2 ho2 hl) h
def grow2B (md : Region.Mode) (fb ls : Nat → Bool) (size : Nat) (l : List Oper) : Bool :=
  Region.noSelect l.toArray && (List.range l.length).all fun i => match l[i]? with
    | none => true
    | some o => o.guard.isNone && ((match o.dst with | some d => decide (d < size) | none => true) && ((o.after.toList.all fun e => !Region.binds md e || (decide (e.on < i) && (!fb i || fb e.on))) && ((List.range l.length).all fun j => match l[j]? with
        | none => true
        | some o' => (i == j || dstB o o') && ((depsB md o j || (match o'.dst with | some d => !looksB o d | none => true)) && (fb i || (if fb j then ls j || ancB md l l.length i j else decide (i ≤ j) || ancB md l l.length i j))))))
theorem grow2B_spec {fb ls : Nat → Bool} {size : Nat} {l : List Oper} (h : grow2B md fb ls size l = true) {i : Nat} {o : Oper} (ho : l[i]? = some o) :
    o.guard = none ∧ (∀ d, o.dst = some d → d < size) ∧ (∀ e ∈ o.after, Region.binds md e = true → e.on < i ∧ (fb i = true → fb e.on = true)) ∧ ∀ j o', l[j]? = some o' → (i ≠ j → ∀ d, o.dst = some d → o'.dst ≠ some d) ∧ (depsB md o j = false → ∀ d, o'.dst = some d → .tmp d ∉ o.op.operands) ∧
      (fb i = false → (fb j = true → ls j = true ∨ ancB md l l.length i j = true) ∧ (fb j = false → j < i → ancB md l l.length i j = true)) := by
  unfold grow2B at h
  rw [Bool.and_eq_true, List.all_eq_true] at h
  have hi := (List.getElem?_eq_some_iff.1 ho).1
  have h := h.2 i (List.mem_range.2 hi)
  simp only [ho, Bool.and_eq_true, List.all_eq_true] at h
  obtain ⟨h1, h2, h3, h4⟩ := h
  refine ⟨by simpa using h1, fun d hd => ?_, fun e he hb => ?_, fun j o' hj => ?_⟩
  · rw [hd] at h2; simpa using h2
  · have := h3 e (by simpa using he)
    rw [hb] at this
    simp only [Bool.not_true, Bool.false_or, Bool.and_eq_true, decide_eq_true_eq, Bool.or_eq_true, Bool.not_eq_true'] at this
    refine ⟨this.1, fun hf => ?_⟩
    rcases this.2 with h | h
    · rw [hf] at h; cases h
    · exact h
  · have h5 := h4 j (List.mem_range.2 (List.getElem?_eq_some_iff.1 hj).1)
    simp only [hj, Bool.and_eq_true] at h5
    obtain ⟨h6, h7, h8⟩ := h5
    refine ⟨fun hne d hd hd' => ?_, fun hdep d hd hm => ?_, fun hN => ⟨fun hfj => ?_, fun hfj hlt => ?_⟩⟩
    · rcases Bool.or_eq_true_iff.1 h6 with h6 | h6
      · exact hne (by simpa using h6)
      · unfold dstB at h6
        rw [hd, hd'] at h6
        simp at h6
    · rw [hdep, hd] at h7
      simp only [Bool.false_or, Bool.not_eq_true'] at h7
      unfold looksB at h7
      rw [List.any_eq_false] at h7
      exact absurd (h7 _ (by simpa using hm)) (by simp)
    · rw [hN, hfj] at h8
      simpa using h8
    · rw [hN, hfj] at h8
      simp only [Bool.false_or, Bool.false_eq_true, if_false, Bool.or_eq_true, decide_eq_true_eq] at h8
      rcases h8 with h8 | h8
      · omega
      · exact h8
def steps2 (P : Program) (md : Region.Mode) (ops : List Oper) (fb : Nat → Bool) (a : Act) (C : World → Prop) (G : World → World → Prop) (F : Nat → Value → World → Prop) : Nat → List Oper → Prop
  | _, [] => True
  | k, o :: l => match fb k with
    | true => (∀ vs w, C w → (∀ i, depsB md o i = true → F i (vs i) w) → wpList P #[o] (fun e c w' => e = .normal ∧ ∃ v, c = (stL ops 0 (depsB md o) vs a).put o.dst v ∧ (F k v w' ∧ G w w')) [o] (stL ops 0 (depsB md o) vs a) w) ∧ steps2 P md ops fb a C G F (k + 1) l
    | false => steps2 P md ops fb a C G F (k + 1) l
theorem steps2_at {ops : List Oper} {fb : Nat → Bool} {a : Act} {C : World → Prop} {G : World → World → Prop} {F : Nat → Value → World → Prop} : ∀ (l : List Oper) (k j : Nat) (o : Oper), steps2 P md ops fb a C G F k l → l[j]? = some o → fb (k + j) = true →
    ∀ vs w, C w → (∀ i, depsB md o i = true → F i (vs i) w) → wpList P #[o] (fun e c w' => e = .normal ∧ ∃ v, c = (stL ops 0 (depsB md o) vs a).put o.dst v ∧ (F (k + j) v w' ∧ G w w')) [o] (stL ops 0 (depsB md o) vs a) w
  | [], _, _, _, _, h, _ => by simp at h
  | o :: l, k, 0, o', hs, h, hf => by
    simp only [List.getElem?_cons_zero, Option.some.injEq] at h
    subst h
    simp only [steps2] at hs
    rw [Nat.add_zero] at hf
    rw [hf] at hs
    exact hs.1
  | o :: l, k, j + 1, o', hs, h, hf => by
    rw [show k + (j + 1) = k + 1 + j by omega] at hf ⊢
    have hs' : steps2 P md ops fb a C G F (k + 1) l := by
      simp only [steps2] at hs
      cases hk : fb k with
      | true => rw [hk] at hs; exact hs.2
      | false => rw [hk] at hs; exact hs
    exact steps2_at l (k + 1) j o' hs' (by simpa using h) hf
theorem wpAny_tail2 {fb ls : Nat → Bool} {size : Nat} {l : List Oper} {Q : Exit → Act → World → Prop} (hB : grow2B md fb ls size l = true) : ∀ (R : List Nat) (listed : Array Bool) (b : Act) (w : World), R.Pairwise (· < ·) → (∀ r ∈ R, fb r = false ∧ r < l.length) → listed.size = l.length → (∀ i, i < l.length → listed.getD i false = !R.contains i) →
    (∀ i o, l[i]? = some o → listed.getD i false = true → ∀ e ∈ o.after, Region.binds md e = true → listed.getD e.on false = true) →
    wpList P l.toArray Q (R.filterMap fun i => l[i]?) b w → wpAny P md l.toArray Q R.length listed b w
  | [], listed, b, w, _, _, hs, hl, _, h => by
    refine ⟨?_, h⟩
    refine List.eq_nil_iff_forall_not_mem.2 fun j hj => ?_
    obtain ⟨h1, o, ho, _⟩ := mem_ready.1 hj
    have hlt : j < l.length := by simpa using (Array.getElem?_eq_some_iff.1 ho).1
    have h2 := hl j hlt
    rw [Array.getD_eq_getD_getElem?, Array.getElem?_eq_getElem (by omega)] at h1 h2
    simp at h1 h2
    rw [h1] at h2; cases h2
  | r :: R, listed, b, w, hp, hr, hs, hl, hcl, h => by
    obtain ⟨hfr, hrl⟩ := hr r List.mem_cons_self
    obtain ⟨o, ho⟩ : ∃ o, l[r]? = some o := ⟨_, List.getElem?_eq_getElem hrl⟩
    have hon : l.toArray[r]? = some o := by simpa using ho
    obtain ⟨hg, _, hdep, hall⟩ := grow2B_spec hB ho
    rw [List.pairwise_cons] at hp
    have hget : ∀ i, i < l.length → ∀ d, listed.getD i d = !(r :: R).contains i := fun i hi d => by
      have := hl i hi
      rw [Array.getD_eq_getD_getElem?, Array.getElem?_eq_getElem (by omega)] at this ⊢
      exact this
    have hless : ∀ i, i < r → i < l.length → listed.getD i false = true := fun i hi hil => by
      rw [hl i hil]
      have : (r :: R).contains i = false := by
        rw [List.contains_eq_mem, decide_eq_false_iff_not]
        intro hm
        rcases List.mem_cons.1 hm with h | h
        · omega
        · have := hp.1 i h; omega
      rw [this]; rfl
    have hready : r ∈ Region.ready md l.toArray listed := by
      rw [mem_ready]
      refine ⟨by rw [hget r hrl]; simp, o, hon, fun e he hb => ?_⟩
      have := (hdep e he hb).1
      exact hless e.on this (by omega)
    refine ⟨fun h0 => absurd hready (by rw [h0]; simp), fun j hj => ?_⟩
    have hjk : j = r := by
      obtain ⟨h1, o', ho', h2⟩ := mem_ready.1 hj
      have ho'' : l[j]? = some o' := by simpa using ho'
      have hlt := (List.getElem?_eq_some_iff.1 ho'').1
      rw [hget j hlt] at h1
      have hjm : j ∈ r :: R := by
        simp only [Bool.not_eq_false'] at h1
        exact List.contains_iff_mem.1 h1
      rcases List.mem_cons.1 hjm with h3 | h3
      · exact h3
      · have hfj := (hr j (List.mem_cons_of_mem _ h3)).1
        have hlt2 := hp.1 j h3
        have h4 := ((grow2B_spec hB ho'').2.2.2 r o ho).2.2 hfj |>.2 hfr hlt2
        have h5 := anc_listed hcl _ _ _ _ ho'' h2 h4
        rw [hget r hrl] at h5
        simp at h5
    subst hjk
    simp only [List.filterMap_cons, ho] at h
    have hw : Region.wanted o (yielded l.toArray b.tmps) = true := by simp [Region.wanted, hg]
    simp only [wpList, hw, if_true] at h
    unfold wpOp
    simp only [hon, hw, if_true]
    have hgs : ∀ i, (listed.setIfInBounds j true).getD i false = (listed.getD i false || i == j) := fun i => by
      by_cases e : j = i
      · subst e
        rw [Array.getD_eq_getD_getElem?, Array.getElem?_setIfInBounds_self_of_lt (by omega)]
        simp
      · rw [getD_set_ne false e]
        have : (i == j) = false := by simp; exact fun h => e h.symm
        rw [this, Bool.or_false]
    have hnext : ∀ b' w', wpList P l.toArray Q (R.filterMap fun i => l[i]?) b' w' → wpAny P md l.toArray Q R.length (listed.setIfInBounds j true) b' w' := fun b' w' h' =>
      wpAny_tail2 hB R _ b' w' hp.2 (fun q hq => hr q (List.mem_cons_of_mem _ hq)) (by simpa using hs) (fun i hi => by
        rw [hgs, hl i hi]
        by_cases e : i = j
        · subst e
          have : R.contains i = false := by
            rw [List.contains_eq_mem, decide_eq_false_iff_not]
            intro hm
            have := hp.1 i hm; omega
          rw [this]; simp
        · have e1 : (i == j) = false := by simp [e]
          rw [e1, Bool.or_false, List.contains_cons, e1, Bool.false_or]) (fun i o' ho' hi e he hb => by
        rw [hgs] at hi ⊢
        rcases Bool.or_eq_true_iff.1 hi with hi | hi
        · rw [hcl i o' ho' hi e he hb]; rfl
        · have : i = j := by simpa using hi
          subst this
          rw [ho] at ho'
          injection ho' with ho'
          subst ho'
          have := (hdep e he hb).1
          rw [hless e.on this (by omega)]; rfl) h'
    rcases h with h | h
    · exact .inl (Oper.wp_mono hnext h)
    · exact .inr h
theorem wpAny_grow2 {fb ls : Nat → Bool} {l : List Oper} {a : Act} {Q : Exit → Act → World → Prop} {C : World → Prop} {G : World → World → Prop} {F : Nat → Value → World → Prop} (hQ : ∀ c a w, ¬ Q (.panic c) a w) (hB : grow2B md fb ls a.tmps.size l = true)
    (hst : ∀ w w', C w → G w w' → C w' ∧ ∀ i, fb i = true → ∀ v, F i v w → F i v w') (hrf : ∀ w, C w → G w w) (hs : steps2 P md l fb a C G F 0 l)
    (hlag : ∀ j o, l[j]? = some o → fb j = true → ls j = true → ∀ vs w, C w → (∀ i, depsB md o i = true → F i (vs i) w) → ∃ v, (∀ w', (execOp (stL l 0 (depsB md o) vs a).eval o).run P w' = .ok (.value v) w') ∧ F j v w)
    (hf : ∀ vs w', C w' → (∀ i, i < l.length → fb i = true → F i (vs i) w') → wpList P l.toArray Q (((List.range l.length).filter fun i => !fb i).filterMap fun i => l[i]?) (stL l 0 fb vs a) w') :
    ∀ (fuel : Nat) (listed : Array Bool) (w : World) (vs : Nat → Value), (List.range l.length).countP (fun i => !listed.getD i false) = fuel → listed.size = l.length → (∀ i, i < l.length → fb i = false → listed.getD i false = false) →
      (∀ i o, l[i]? = some o → listed.getD i false = true → ∀ e ∈ o.after, Region.binds md e = true → listed.getD e.on false = true) → C w →
      (∀ i, listed.getD i false = true → F i (vs i) w) → wpAny P md l.toArray Q fuel listed (stL l 0 (fun i => listed.getD i false) vs a) w := by
  have hsel : ∀ (j : Nat) (o : Oper) cs b, l.toArray[j]? = some o → o.op ≠ .select cs b := by
    unfold grow2B at hB
    rw [Bool.and_eq_true] at hB
    exact Region.noSelect_spec hB.1
  -- all that come first are done
  have full : ∀ (fuel : Nat) (listed : Array Bool) (w : World) (vs : Nat → Value), (List.range l.length).countP (fun i => !listed.getD i false) = fuel → listed.size = l.length → (∀ i, i < l.length → fb i = false → listed.getD i false = false) →
      (∀ i o, l[i]? = some o → listed.getD i false = true → ∀ e ∈ o.after, Region.binds md e = true → listed.getD e.on false = true) → C w →
      (∀ i, listed.getD i false = true → F i (vs i) w) → (∀ i, i < l.length → fb i = true → listed.getD i false = true) → wpAny P md l.toArray Q fuel listed (stL l 0 (fun i => listed.getD i false) vs a) w := by
    intro fuel listed w vs hc hsz ht hcl hC hF hfull
    have hl : ∀ i, i < l.length → listed.getD i false = fb i := fun i hi => by
      cases h : fb i with
      | true => exact hfull i hi h
      | false => exact ht i hi h
    have hfuel : ((List.range l.length).filter fun i => !fb i).length = fuel := by
      rw [← hc, ← List.countP_eq_length_filter]
      exact List.countP_congr fun i hi => by rw [hl i (List.mem_range.1 hi)]
    rw [← hfuel]
    have hsort : ((List.range l.length).filter fun i => !fb i).Pairwise (· < ·) := List.Pairwise.filter _ List.pairwise_lt_range
    refine wpAny_tail2 hB _ listed _ w hsort (fun r hr => ?_) hsz (fun i hi => ?_) hcl ?_
    · rw [List.mem_filter, List.mem_range] at hr
      exact ⟨by simpa using hr.2, hr.1⟩
    · rw [hl i hi]
      have : ((List.range l.length).filter fun i => !fb i).contains i = !fb i := by
        rw [List.contains_eq_mem]
        cases h : fb i <;> simp [List.mem_filter, h, hi]
      rw [this, Bool.not_not]
    · have := hf vs w hC (fun i hi hfi => hF i (hfull i hi hfi))
      rw [stL_congr l 0 _ fb vs vs a (fun i _ hi => ⟨hl i (by omega), fun _ => rfl⟩)]
      exact this
  intro fuel
  induction fuel with
  | zero =>
    intro listed w vs hc hsz ht hcl hC hF
    have hall := cnt_zero hc
    exact full 0 listed w vs hc hsz ht hcl hC hF (fun i hi _ => by simpa using hall i hi)
  | succ fuel ih =>
    intro listed w vs hc hsz ht hcl hC hF
    by_cases hfull : ∀ i, i < l.length → fb i = true → listed.getD i false = true
    · exact full (fuel + 1) listed w vs hc hsz ht hcl hC hF hfull
    · obtain ⟨m, hmN, hmun, hmin⟩ : ∃ m, (m < l.length ∧ fb m = true) ∧ listed.getD m false = false ∧ ∀ i, i < m → fb i = true → listed.getD i false = true := by
        have : ∃ m, (m < l.length ∧ fb m = true) ∧ listed.getD m false = false := by
          rcases Classical.not_forall.1 hfull with ⟨m, hm⟩
          rw [Classical.not_imp, Classical.not_imp] at hm
          exact ⟨m, ⟨hm.1, hm.2.1⟩, by simpa using hm.2.2⟩
        obtain ⟨m, h1, h2⟩ := this
        clear hfull
        induction m using Nat.strongRecOn with
        | _ m ihm =>
          by_cases h : ∃ i, i < m ∧ fb i = true ∧ listed.getD i false = false
          · obtain ⟨i, hi, hfi, hi2⟩ := h
            exact ihm i hi ⟨by omega, hfi⟩ hi2
          · refine ⟨m, h1, h2, fun i hi hfi => ?_⟩
            cases hv : listed.getD i false with
            | true => rfl
            | false => exact absurd ⟨i, hi, hfi, hv⟩ h
      have hgt : ∀ i, i < l.length → ∀ d, listed.getD i d = listed.getD i false := fun i hi d => by
        rw [Array.getD_eq_getD_getElem?, Array.getD_eq_getD_getElem?, Array.getElem?_eq_getElem (by omega)]
        rfl
      obtain ⟨om, hom⟩ : ∃ o, l[m]? = some o := ⟨_, List.getElem?_eq_getElem hmN.1⟩
      have hmdeps : ∀ e ∈ om.after, Region.binds md e = true → listed.getD e.on false = true := fun e he hb => by
        have := (grow2B_spec hB hom).2.2.1 e he hb
        exact hmin e.on this.1 (this.2 hmN.2)
      have hready : m ∈ Region.ready md l.toArray listed := by
        rw [mem_ready]
        exact ⟨by rw [hgt m hmN.1]; exact hmun, om, by simpa using hom, hmdeps⟩
      have go : ∀ (j : Nat) (o : Oper) v w', fb j = true → l[j]? = some o → listed.getD j false = false → (∀ e ∈ o.after, Region.binds md e = true → listed.getD e.on false = true) → F j v w' → G w w' → wpAny P md l.toArray Q fuel (listed.setIfInBounds j true) ((stL l 0 (fun i => listed.getD i false) vs a).put o.dst v) w' := by
        intro j o v w' hjN ho h1 h2 hFv hG
        obtain ⟨_, _, _, hall⟩ := grow2B_spec hB ho
        have hlt := (List.getElem?_eq_some_iff.1 ho).1
        obtain ⟨hC', hst'⟩ := hst w w' hC hG
        have hadd := stL_add l 0 j (fun i => listed.getD i false) vs a o v ho (by rw [Nat.zero_add]; exact h1) (fun i o' hi hne d hd => (hall i o' hi).1 (fun e => hne e.symm) d hd)
        simp only [Nat.zero_add] at hadd
        have hget : ∀ i, (listed.setIfInBounds j true).getD i false = (listed.getD i false || i == j) := fun i => by
          by_cases e : j = i
          · subst e
            rw [Array.getD_eq_getD_getElem?, Array.getElem?_setIfInBounds_self_of_lt (by omega)]
            simp
          · rw [getD_set_ne false e]
            have : (i == j) = false := by simp; exact fun h => e h.symm
            rw [this, Bool.or_false]
        rw [← hadd, ← stL_congr l 0 (fun i => (listed.setIfInBounds j true).getD i false) _ (fun i => if i = j then v else vs i) _ a (fun i _ _ => ⟨hget i, fun _ => rfl⟩)]
        refine ih (listed.setIfInBounds j true) w' (fun i => if i = j then v else vs i) ?_ (by simpa using hsz) (fun i hi hNi => ?_) (fun i o' ho' hi e he hb => ?_) hC' (fun i hl => ?_)
        · have := cnt_set l.length (fun i => !listed.getD i false) (fun i => !(listed.setIfInBounds j true).getD i false) j hlt (by rw [h1]; rfl) (by rw [hget]; simp) (fun i hi => by rw [hget]; simp [hi])
          omega
        · rw [hget, ht i hi hNi]
          have : (i == j) = false := by
            simp
            intro e
            subst e
            rw [hjN] at hNi; cases hNi
          rw [this]; rfl
        · rw [hget] at hi ⊢
          rcases Bool.or_eq_true_iff.1 hi with hi | hi
          · rw [hcl i o' ho' hi e he hb]; rfl
          · have : i = j := by simpa using hi
            subst this
            rw [ho] at ho'
            injection ho' with ho'
            subst ho'
            rw [h2 e he hb]; rfl
        · rw [hget] at hl
          by_cases e : i = j
          · subst e; simpa using hFv
          · rw [if_neg e]
            have : (i == j) = false := by simp [e]
            rw [this, Bool.or_false] at hl
            refine hst' i ?_ _ (hF i hl)
            cases hfi : fb i with
            | true => rfl
            | false =>
              have hil : i < l.length := by
                rcases Nat.lt_or_ge i listed.size with h | h
                · omega
                · rw [Array.getD_eq_getD_getElem?, Array.getElem?_eq_none h] at hl; simp at hl
              rw [ht i hil hfi] at hl; cases hl
      have dl : ∀ o, (∀ e ∈ o.after, Region.binds md e = true → listed.getD e.on false = true) → ∀ i, depsB md o i = true → listed.getD i false = true := fun o h2 i hi => by
        obtain ⟨e, he, hb, rfl⟩ := depsB_mem hi
        exact h2 e he hb
      have alike : ∀ (j : Nat) (o : Oper), l[j]? = some o → (∀ e ∈ o.after, Region.binds md e = true → listed.getD e.on false = true) → Alike2 o (stL l 0 (fun i => listed.getD i false) vs a) (stL l 0 (depsB md o) vs a) := by
        intro j o ho h2
        obtain ⟨_, _, hdep, hall⟩ := grow2B_spec hB ho
        refine stL_alike l 0 _ _ vs a a (fun i o' hi hne d hd => ?_) ⟨rfl, fun _ _ => rfl⟩
        rw [Nat.zero_add] at hne
        refine (hall i o' hi).2.1 ?_ d hd
        cases hdp : depsB md o i with
        | false => rfl
        | true => rw [dl o h2 i hdp, hdp] at hne; exact absurd rfl hne
      by_cases hlg : ∀ i, i < l.length → fb i = true → listed.getD i false = false → ls i = true
      · obtain ⟨hg, hdst, hdep, hall⟩ := grow2B_spec hB hom
        have hal := alike m om hom hmdeps
        have hsm : ∀ cs b, om.op ≠ .select cs b := fun cs b => hsel m om cs b (by simpa using hom)
        obtain ⟨v, hrun, hFv⟩ := hlag m om hom hmN.2 (hlg m hmN.1 hmN.2 hmun) vs w hC (fun i hi => hF i (dl om hmdeps i hi))
        have hrun2 : ∀ w', (execOp (stL l 0 (fun i => listed.getD i false) vs a).eval om).run P w' = .ok (.value v) w' := fun w' => by
          rw [execOp_congr om hsm (fun x hx => hal.2 x hx)]; exact hrun w'
        refine wpAny_first (i := m) (oi := om) (v := v) (by simpa using hom) hsel (fun c a w h => absurd h (hQ _ _ _)) fuel listed _ w (fun j oj hj hne hun hno => ?_) hready (.inl ⟨by simp [Region.wanted, hg], hrun2⟩) ?_
        · have hj' : l[j]? = some oj := by simpa using hj
          have hjl := (List.getElem?_eq_some_iff.1 hj').1
          obtain ⟨hgj, _, _, hallj⟩ := grow2B_spec hB hj'
          have hjm : depsB md oj m = false := by
            cases hdp : depsB md oj m with
            | false => rfl
            | true =>
              obtain ⟨e, he, hb, h⟩ := depsB_mem hdp
              exact absurd h (hno e he hb)
          have hmj : depsB md om j = false := by
            cases hdp : depsB md om j with
            | false => rfl
            | true =>
              obtain ⟨e, he, hb, h⟩ := depsB_mem hdp
              have h3 := hmdeps e he hb
              rw [h, ← hgt j hjl true, hun] at h3; cases h3
          have looks : ∀ (o : Oper) (d : Tmp), o.guard = none → .tmp d ∉ o.op.operands → d ∉ o.looksAt l.toArray := fun o d hg hn hm => by
            unfold Oper.looksAt at hm
            rw [hg] at hm
            simp only [List.append_nil, List.mem_filterMap] at hm
            obtain ⟨x, hx, hx2⟩ := hm
            cases x with
            | tmp t =>
              simp at hx2
              subst hx2
              exact hn (by simpa using hx)
            | _ => simp at hx2
          unfold Oper.apart
          rw [Bool.and_eq_true]
          refine ⟨?_, ?_⟩
          · cases hd : om.dst with
            | none => rfl
            | some d =>
              simp only [Bool.and_eq_true, Bool.not_eq_true']
              refine ⟨?_, ?_⟩
              · have := looks oj d hgj ((hallj m om hom).2.1 hjm d hd)
                simpa using this
              · have := (hall j oj hj').1 (fun e => hne e.symm) d hd
                simpa using this
          · cases hd : oj.dst with
            | none => rfl
            | some d =>
              have := looks om d hg ((hall j oj hj').2.1 hmj d hd)
              simpa using this
        · exact go m om v w hmN.2 hom hmun hmdeps hFv (hrf w hC)
      · have hlag2 : ∃ i, i < l.length ∧ fb i = true ∧ listed.getD i false = false ∧ ls i = false := Classical.byContradiction fun hc => hlg fun i h1 h2 h3 => by
          cases h4 : ls i with
          | true => rfl
          | false => exact absurd ⟨i, h1, h2, h3, h4⟩ hc
        obtain ⟨i0, hi0, hf0, hun0, hl0⟩ := hlag2
        obtain ⟨o0, ho0⟩ : ∃ o, l[i0]? = some o := ⟨_, List.getElem?_eq_getElem hi0⟩
        refine ⟨fun h0 => absurd hready (by rw [h0]; simp), fun j hj => ?_⟩
        obtain ⟨h1, o, ho', h2⟩ := mem_ready.1 hj
        have ho : l[j]? = some o := by simpa using ho'
        have hlt := (List.getElem?_eq_some_iff.1 ho).1
        rw [hgt j hlt] at h1
        obtain ⟨hg, hdst, hdep, hall⟩ := grow2B_spec hB ho
        have hjN : fb j = true := by
          cases hfj : fb j with
          | true => rfl
          | false =>
            rcases ((hall i0 o0 ho0).2.2 hfj).1 hf0 with h3 | h3
            · rw [hl0] at h3; cases h3
            · have := anc_listed hcl _ _ _ _ ho h2 h3
              rw [hun0] at this; cases this
        have hstep := steps2_at l 0 j o hs ho (by rw [Nat.zero_add]; exact hjN) vs w hC (fun i hi => hF i (dl o h2 i hi))
        rw [Nat.zero_add] at hstep
        have hw : Region.wanted o (yielded l.toArray (stL l 0 (fun i => listed.getD i false) vs a).tmps) = true := by simp [Region.wanted, hg]
        unfold wpOp
        simp only [ho', hw, if_true]
        left
        exact wp_move_frame hg (fun cs b => hsel j o cs b ho') (alike j o ho h2) (fun d hd => by rw [stL_size]; exact hdst d hd) hstep (fun v w' h => go j o v w' hjN ho h1 h2 h.1 h.2)
end
theorem wp_region_grow2 {P : Program} {id : Nat} {Q : Exit → Act → World → Prop} {a : Act} {w : World} {l : List Oper} (fb ls : Nat → Bool) (C : World → Prop) (G : World → World → Prop) (F : Nat → Value → World → Prop) (hm : P.follows .mixedOrders = true) (hB : grow2B .any fb ls a.tmps.size l = true)
    (hC : C w.drew) (hst : ∀ w w', C w → G w w' → C w' ∧ ∀ i, fb i = true → ∀ v, F i v w → F i v w') (hrf : ∀ w, C w → G w w) (hs : steps2 P .any l fb a C G F 0 l)
    (hlag : ∀ j o, l[j]? = some o → fb j = true → ls j = true → ∀ vs w, C w → (∀ i, depsB .any o i = true → F i (vs i) w) → ∃ v, (∀ w', (execOp (stL l 0 (depsB .any o) vs a).eval o).run P w' = .ok (.value v) w') ∧ F j v w)
    (hf : ∀ vs w', C w' → (∀ i, i < l.length → fb i = true → F i (vs i) w') → wpList P l.toArray (fun e b w => e = .normal ∧ Q .normal b w) (((List.range l.length).filter fun i => !fb i).filterMap fun i => l[i]?) (stL l 0 fb vs a) w') : (Code.region id l.toArray true).wp P Q a w := by
  refine Code.wp_mono (Q := fun e b w => e = .normal ∧ Q .normal b w) (fun e b w h => by obtain ⟨rfl, h⟩ := h; exact h) ?_
  refine wp_region_any hm ?_
  have hn : ∀ i, (Array.replicate l.toArray.size false).getD i false = false := fun i => by
    simp [Array.getD_eq_getD_getElem?, Array.getElem?_replicate]
    split <;> rfl
  have h0 : stL l 0 (fun i => (Array.replicate l.toArray.size false).getD i false) (fun _ => undef) a = a := by
    rw [stL_congr l 0 _ (fun _ => false) (fun _ => undef) (fun _ => undef) a (fun i _ hi => ⟨hn i, fun _ => rfl⟩)]
    exact stL_none _ _ _ _
  have := wpAny_grow2 (Q := fun e b w => e = .normal ∧ Q .normal b w) (C := C) (G := G) (F := F) (fun c a w h => absurd h.1 (by simp)) hB hst hrf hs hlag hf l.toArray.size (Array.replicate l.toArray.size false) w.drew (fun _ => undef) (by
    rw [List.countP_eq_length.2 (fun i hi => by rw [hn]; rfl)]
    simp) (by simp) (fun i hi _ => hn i) (fun i o _ h => by rw [hn] at h; cases h) hC (fun i h => by rw [hn] at h; cases h)
  rw [h0] at this
  exact this
end Go.Proofs.Ytmdfgidejdiiiaa
end
section
namespace Go.Proofs.Ytmdfgidejdiiiaa
open Go.RowKit
def cnt (n fr m : Nat) : Nat := (n - fr + m - 1) / m
def everyN (x : List Int) (fr m k : Nat) : List Int := (List.range k).map fun i => x[fr + i * m]?.getD 0
def everyF (x : List Int) (fr m : Nat) : List Int := everyN x fr m (cnt x.length fr m)
theorem everyN_succ {x : List Int} {fr m k : Nat} {y : Int} (h : x[fr + k * m]? = some y) : everyN x fr m (k + 1) = everyN x fr m k ++ [y] := by
  simp [everyN, List.range_succ, h]
theorem everyN_length (x : List Int) (fr m k : Nat) : (everyN x fr m k).length = k := by simp [everyN]
theorem cnt_iff {n fr m k : Nat} (hm : 1 ≤ m) : fr + k * m < n ↔ k < cnt n fr m := by
  unfold cnt
  have h1 : k < (n - fr + m - 1) / m ↔ k + 1 ≤ (n - fr + m - 1) / m := by omega
  rw [h1, Nat.le_div_iff_mul_le (by omega), Nat.add_mul]
  omega
theorem cnt_le (n fr m : Nat) (hm : 1 ≤ m) : cnt n fr m ≤ n := by
  rcases Nat.lt_or_ge n (cnt n fr m) with h | h
  · have := (cnt_iff (n := n) (fr := fr) (k := n) hm).2 h
    have : n * 1 ≤ n * m := Nat.mul_le_mul_left n hm
    omega
  · exact h
def downE (n : Nat) (m : Int) : Int := if (inB m 1 12) = true then (if 4096 < n then 4 else 0) else 20
end Go.Proofs.Ytmdfgidejdiiiaa
end
section
namespace Go.Proofs.Ytmdfgidejdiiiaa
open Go.RowKit
def phN (x : List Int) (m k : Nat) : List (List Int) := (List.range m).map fun i => if i < k then everyF x i m else []
def phF (x : List Int) (m : Nat) : List (List Int) := phN x m m
def phV (x : List Int) (m : Int) : List (List Int) := if downE x.length m = 0 then phF x m.toNat else []
theorem phN_length (x : List Int) (m k : Nat) : (phN x m k).length = m := by simp [phN]
theorem phN_zero (x : List Int) (m : Nat) : phN x m 0 = List.replicate m [] := by
  apply List.ext_getElem?
  intro i
  simp only [phN, List.getElem?_map, List.getElem?_replicate]
  rcases Nat.lt_or_ge i m with h | h
  · rw [List.getElem?_range h]; simp [h]
  · rw [List.getElem?_eq_none (by simpa using h)]; simp; omega
theorem phN_at {x : List Int} {m k : Nat} (h : k < m) : (phN x m k)[k]? = some [] := by
  simp only [phN, List.getElem?_map, List.getElem?_range h]; simp
theorem phN_succ {x : List Int} {m k : Nat} (h : k < m) : phN x m (k + 1) = (phN x m k).set k (everyF x k m) := by
  apply List.ext_getElem?
  intro i
  rw [List.getElem?_set]
  simp only [phN, List.getElem?_map, List.length_map, List.length_range]
  by_cases e : k = i
  · subst e; rw [if_pos rfl, if_pos h, List.getElem?_range h]; simp
  · rw [if_neg e]
    rcases Nat.lt_or_ge i m with hi | hi
    · rw [List.getElem?_range hi]
      simp only [Option.map_some]
      by_cases h1 : i < k
      · rw [if_pos (by omega), if_pos h1]
      · rw [if_neg (by omega), if_neg h1]
    · rw [List.getElem?_eq_none (by simpa using hi)]; rfl
theorem phV_of {x : List Int} {l : Nat} (h : downE x.length l = 0) : phV x l = phF x l := by unfold phV; rw [if_pos h, Int.toNat_natCast]
theorem phV_no {x : List Int} {l : Int} (h : downE x.length l ≠ 0) : phV x l = [] := by unfold phV; rw [if_neg h]
end Go.Proofs.Ytmdfgidejdiiiaa
end
section
namespace Go.Proofs.Ytmdfgidejdiiiaa
open Go.RowKit
def el (l : List Int) (k : Nat) : Int := l[k]?.getD 0
theorem el_bound {l : List Int} {B : Int} (hB : 0 ≤ B) (h : ∀ x ∈ l, -B ≤ x ∧ x ≤ B) (k : Nat) : -B ≤ el l k ∧ el l k ≤ B := by
  unfold el
  cases hk : l[k]? with
  | none => simp; omega
  | some x => exact h x (List.mem_of_getElem? hk)
end Go.Proofs.Ytmdfgidejdiiiaa
end
section
namespace Go.Proofs.Ytmdfgidejdiiiaa
open Go.RowKit
theorem everyF_get {x : List Int} {fr m : Nat} (hm : 1 ≤ m) (i : Nat) : (everyF x fr m)[i]? = x[fr + i * m]? := by
  unfold everyF everyN
  rw [List.getElem?_map]
  by_cases h : i < cnt x.length fr m
  · rw [List.getElem?_range h]
    have := (cnt_iff (n := x.length) (fr := fr) (k := i) hm).2 h
    simp [List.getElem?_eq_getElem this]
  · have h2 : ¬ fr + i * m < x.length := fun hc => h ((cnt_iff hm).1 hc)
    rw [List.getElem?_eq_none (by simpa using h), List.getElem?_eq_none (by omega)]; rfl
end Go.Proofs.Ytmdfgidejdiiiaa
end
section
namespace Go.Proofs.Ytmdfgidejdiiiaa
open Go.RowKit
theorem wrap_in {b v : Int} (h1 : 1 ≤ b) (h2 : b ≤ 62) : -2 ^ (b - 1).toNat ≤ wrapF b v ∧ wrapF b v ≤ 2 ^ (b - 1).toNat - 1 := by
  unfold wrapF
  rw [if_pos (inB_iff.2 ⟨h1, h2⟩)]
  have e : b.toNat = (b - 1).toNat + 1 := by omega
  have hp := pow_pos' (b - 1).toNat
  have e2 : (2 : Nat) ^ b.toNat = 2 * 2 ^ (b - 1).toNat := by rw [e, Nat.pow_succ, Nat.mul_comm]
  have c : ((2 ^ (b - 1).toNat : Nat) : Int) = (2 : Int) ^ (b - 1).toNat := by push_cast; rfl
  have h3 := @Int.le_bmod v (2 ^ b.toNat) (by rw [e2]; have := Nat.two_pow_pos (b - 1).toNat; omega)
  have h4 := @Int.bmod_le v (2 ^ b.toNat) (by rw [e2]; have := Nat.two_pow_pos (b - 1).toNat; omega)
  rw [e2] at h3 h4
  rw [e2]
  rw [← c] at hp ⊢
  generalize (2 ^ (b - 1).toNat : Nat) = P at *
  generalize v.bmod (2 * P) = q at *
  omega
theorem el_of {l : List Int} {k : Nat} {y : Int} (h : l[k]? = some y) : el l k = y := by unfold el; rw [h]; rfl
theorem el_none {l : List Int} {k : Nat} (h : l.length ≤ k) : el l k = 0 := by unfold el; rw [List.getElem?_eq_none h]; rfl
end Go.Proofs.Ytmdfgidejdiiiaa
end
section
namespace Go.Proofs.Ytmdfgidejdiiiaa
open Go.RowKit
abbrev Lft := Bool × Int × List Int × Int
def chS (c : List Int) (st : Int) (o : List Int) (n : Nat) : Nat → Int
  | 0 => 0
  | k + 1 => chS c st o n k + el c k * el o (((n : Int) + st + k) % (o.length : Int)).toNat
def chF (s : Lft) (o : List Int) (n : Nat) : Int := shiftF (chS s.2.2.1 s.2.1 o n s.2.2.1.length) s.2.2.2 1
def stN (s : Lft) (g : Int) (to fr : List Int) (K : Nat) : List Int := (List.range to.length).map fun n => if n < K then wrapF 32 (el to n + g * chF s fr n) else el to n
def stF (s : Lft) (g : Int) (to fr : List Int) : List Int := stN s g to fr to.length
def lift1 (g : Int) (p : List Int × List Int) (s : Lft) : List Int × List Int := if s.1 = true then (p.1, stF s g p.2 p.1) else (stF s g p.1 p.2, p.2)
def anaF (ls : List Lft) (p : List Int × List Int) : List Int × List Int := ls.foldl (lift1 1) p
def W32 (l : List Int) : Prop := ∀ x ∈ l, -2147483648 ≤ x ∧ x < 2147483648
theorem stN_length (s : Lft) (g : Int) (to fr : List Int) (K : Nat) : (stN s g to fr K).length = to.length := by simp [stN]
theorem stF_length (s : Lft) (g : Int) (to fr : List Int) : (stF s g to fr).length = to.length := stN_length _ _ _ _ _
theorem stN_get {s : Lft} {g : Int} {to fr : List Int} {K n : Nat} (h : n < to.length) : (stN s g to fr K)[n]? = some (if n < K then wrapF 32 (el to n + g * chF s fr n) else el to n) := by
  simp only [stN, List.getElem?_map, List.getElem?_range h]; rfl
theorem get_el {l : List Int} {n : Nat} (h : n < l.length) : l[n]? = some (el l n) := by unfold el; rw [List.getElem?_eq_getElem h]; rfl
theorem list_ext {a b : List Int} (hl : a.length = b.length) (h : ∀ n, n < a.length → el a n = el b n) : a = b := by
  apply List.ext_getElem?
  intro n
  rcases Nat.lt_or_ge n a.length with hn | hn
  · rw [get_el hn, get_el (by omega), h n hn]
  · rw [List.getElem?_eq_none hn, List.getElem?_eq_none (by omega)]
theorem el_stF {s : Lft} {g : Int} {to fr : List Int} {n : Nat} (h : n < to.length) : el (stF s g to fr) n = wrapF 32 (el to n + g * chF s fr n) := by
  have : (stF s g to fr)[n]? = _ := stN_get (K := to.length) h
  rw [if_pos h] at this
  exact el_of this
theorem stN_zero (s : Lft) (g : Int) (to fr : List Int) : stN s g to fr 0 = to := by
  refine list_ext (stN_length _ _ _ _ _) fun n hn => ?_
  rw [stN_length] at hn
  rw [el_of (stN_get hn), if_neg (by omega)]
theorem stN_at {s : Lft} {g : Int} {to fr : List Int} {K : Nat} (h : K < to.length) : (stN s g to fr K)[K]? = some (el to K) := by rw [stN_get h, if_neg (by omega)]
theorem stN_succ {s : Lft} {g : Int} {to fr : List Int} {K : Nat} (h : K < to.length) : stN s g to fr (K + 1) = (stN s g to fr K).set K (wrapF 32 (el to K + g * chF s fr K)) := by
  apply List.ext_getElem?
  intro n
  rw [List.getElem?_set, stN_length]
  rcases Nat.lt_or_ge n to.length with hn | hn
  · rw [stN_get hn, stN_get hn]
    by_cases e : K = n
    · subst e; rw [if_pos rfl, if_pos h, if_pos (by omega)]
    · rw [if_neg e]
      congr 1
      by_cases h1 : n < K
      · rw [if_pos h1, if_pos (by omega)]
      · rw [if_neg h1, if_neg (by omega)]
  · rw [if_neg (by omega), List.getElem?_eq_none (by rw [stN_length]; exact hn), List.getElem?_eq_none (by rw [stN_length]; exact hn)]
theorem lift1_length (g : Int) (p : List Int × List Int) (s : Lft) : (lift1 g p s).1.length = p.1.length ∧ (lift1 g p s).2.length = p.2.length := by
  unfold lift1
  split
  · exact ⟨rfl, stF_length _ _ _ _⟩
  · exact ⟨stF_length _ _ _ _, rfl⟩
theorem fold_length (g : Int) (ls : List Lft) : ∀ p : List Int × List Int, (ls.foldl (lift1 g) p).1.length = p.1.length ∧ (ls.foldl (lift1 g) p).2.length = p.2.length := by
  induction ls with
  | nil => intro p; exact ⟨rfl, rfl⟩
  | cons s ls ih =>
    intro p
    have h1 := ih (lift1 g p s)
    have h2 := lift1_length g p s
    exact ⟨h1.1.trans h2.1, h1.2.trans h2.2⟩
theorem w32_el {l : List Int} (h : W32 l) (n : Nat) : -2147483648 ≤ el l n ∧ el l n < 2147483648 := by
  rcases Nat.lt_or_ge n l.length with hn | hn
  · exact h _ (List.mem_of_getElem? (get_el hn))
  · rw [el_none hn]; omega
theorem w32_wrap (v : Int) : -2147483648 ≤ wrapF 32 v ∧ wrapF 32 v < 2147483648 := by
  have h := wrap_in (b := 32) (v := v) (by decide) (by decide)
  have e : (2 : Int) ^ ((32 : Int) - 1).toNat = 2147483648 := by decide
  rw [e] at h
  omega
theorem w32_st (s : Lft) (g : Int) (to fr : List Int) : W32 (stF s g to fr) := by
  intro x hx
  obtain ⟨n, hn⟩ := List.getElem?_of_mem hx
  have hl : n < to.length := by
    have := (List.getElem?_eq_some_iff.1 hn).1
    rwa [stF_length] at this
  rw [← el_of hn, el_stF hl]
  exact w32_wrap _
theorem w32_lift {g : Int} {p : List Int × List Int} {s : Lft} (h : W32 p.1 ∧ W32 p.2) : W32 (lift1 g p s).1 ∧ W32 (lift1 g p s).2 := by
  unfold lift1
  split
  · exact ⟨h.1, w32_st _ _ _ _⟩
  · exact ⟨w32_st _ _ _ _, h.2⟩
theorem w32_fold (g : Int) (ls : List Lft) : ∀ p : List Int × List Int, W32 p.1 ∧ W32 p.2 → W32 (ls.foldl (lift1 g) p).1 ∧ W32 (ls.foldl (lift1 g) p).2 := by
  induction ls with
  | nil => intro p h; exact h
  | cons s ls ih => intro p h; exact ih _ (w32_lift h)
def evF (x : List Int) : List Int := everyF x 0 2
def odF (x : List Int) : List Int := everyF x 1 2
theorem el_ev (x : List Int) (i : Nat) : el (evF x) i = el x (2 * i) := by
  unfold evF el; rw [everyF_get (by decide), Nat.zero_add, Nat.mul_comm]
theorem el_od (x : List Int) (i : Nat) : el (odF x) i = el x (2 * i + 1) := by
  unfold odF el; rw [everyF_get (by decide), Nat.mul_comm, Nat.add_comm]
theorem ev_length {x : List Int} {h : Nat} (hx : x.length = 2 * h) : (evF x).length = h := by
  rw [show (evF x).length = cnt x.length 0 2 from everyN_length _ _ _ _]; unfold cnt; omega
theorem od_length {x : List Int} {h : Nat} (hx : x.length = 2 * h) : (odF x).length = h := by
  rw [show (odF x).length = cnt x.length 1 2 from everyN_length _ _ _ _]; unfold cnt; omega
theorem w32_ev {x : List Int} (h : W32 x) : W32 (evF x) := by
  intro y hy
  obtain ⟨n, hn⟩ := List.getElem?_of_mem hy
  rw [← el_of hn, el_ev]; exact w32_el h _
theorem w32_od {x : List Int} (h : W32 x) : W32 (odF x) := by
  intro y hy
  obtain ⟨n, hn⟩ := List.getElem?_of_mem hy
  rw [← el_of hn, el_od]; exact w32_el h _
def analyseF (ls : List Lft) (x : List Int) : List Int × List Int := anaF ls (evF x, odF x)
end Go.Proofs.Ytmdfgidejdiiiaa
end
