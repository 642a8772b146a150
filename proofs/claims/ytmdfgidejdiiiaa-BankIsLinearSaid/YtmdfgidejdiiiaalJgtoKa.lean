/- Several texts in one: Jg Ka. -/
import Derived.Test.YtmdfgidejdiiiaalZ2toJ7
import Derived.Test.YtmdfgidejdiiiaalIutoIx
set_option linter.unusedVariables false
set_option linter.unusedSimpArgs false
section
namespace Go.Proofs.Ytmdfgidejdiiiaa
open Go.RowKit
section
variable {P : Program} {md : Region.Mode}
theorem stL_at : ∀ (l : List Oper) (k : Nat) (L : Nat → Bool) (vs : Nat → Value) (a : Act) (j : Nat) (o : Oper) (d : Tmp), l[j]? = some o → o.dst = some d → d < a.tmps.size → L (k + j) = true → (∀ i o', l[i]? = some o' → i ≠ j → o'.dst ≠ some d) → (stL l k L vs a).tmps[d]? = some (vs (k + j))
  | [], _, _, _, _, _, _, _, h, _, _, _, _ => by simp at h
  | o :: l, k, L, vs, a, 0, o', d, h, hd, hs, hL, hap => by
    simp only [List.getElem?_cons_zero, Option.some.injEq] at h
    subst h
    rw [Nat.add_zero] at hL ⊢
    simp only [stL, hL, if_true]
    rw [stL_put l (k + 1) L vs a o.dst (vs k) (fun i o' hi d' hd' => by
      rw [hd] at hd'
      injection hd' with hd'
      subst hd'
      exact hap (i + 1) o' (by simpa using hi) (by omega)), hd]
    simp only [Act.put]
    exact Array.getElem?_setIfInBounds_self_of_lt (by rw [stL_size]; exact hs)
  | o :: l, k, L, vs, a, j + 1, o', d, h, hd, hs, hL, hap => by
    rw [show k + (j + 1) = k + 1 + j by omega] at hL ⊢
    simp only [stL]
    refine stL_at l (k + 1) L vs _ j o' d (by simpa using h) hd ?_ hL (fun i o'' hi hne => hap (i + 1) o'' (by simpa using hi) (by omega))
    split
    · rw [size_put]; exact hs
    · exact hs
def growGB (md : Region.Mode) (fb ls : Nat → Bool) (size : Nat) (l : List Oper) : Bool :=
  Region.noSelect l.toArray && (List.range l.length).all fun i => match l[i]? with
    | none => true
    | some o => (match o.guard with | some (g, _) => fb i && depsB md o g && decide (g < i) && (match l[g]? with | some og => og.dst.isSome | none => false) | none => true) && ((match o.dst with | some d => decide (d < size) | none => true) && ((o.after.toList.all fun e => !Region.binds md e || (decide (e.on < i) && (!fb i || fb e.on))) && ((List.range l.length).all fun j => match l[j]? with
        | none => true
        | some o' => (i == j || dstB o o') && ((depsB md o j || (match o'.dst with | some d => !looksB o d | none => true)) && (fb i || (if fb j then ls j || ancB md l l.length i j else decide (i ≤ j) || ancB md l l.length i j))))))
theorem growGB_spec {fb ls : Nat → Bool} {size : Nat} {l : List Oper} (h : growGB md fb ls size l = true) {i : Nat} {o : Oper} (ho : l[i]? = some o) :
    (∀ g c, o.guard = some (g, c) → fb i = true ∧ depsB md o g = true) ∧ (∀ d, o.dst = some d → d < size) ∧ (∀ e ∈ o.after, Region.binds md e = true → e.on < i ∧ (fb i = true → fb e.on = true)) ∧ ∀ j o', l[j]? = some o' → (i ≠ j → ∀ d, o.dst = some d → o'.dst ≠ some d) ∧ (depsB md o j = false → ∀ d, o'.dst = some d → .tmp d ∉ o.op.operands) ∧
      (fb i = false → (fb j = true → ls j = true ∨ ancB md l l.length i j = true) ∧ (fb j = false → j < i → ancB md l l.length i j = true)) := by
  unfold growGB at h
  rw [Bool.and_eq_true, List.all_eq_true] at h
  have hi := (List.getElem?_eq_some_iff.1 ho).1
  have h := h.2 i (List.mem_range.2 hi)
  simp only [ho, Bool.and_eq_true, List.all_eq_true] at h
  obtain ⟨h1, h2, h3, h4⟩ := h
  refine ⟨fun g c hg => by rw [hg] at h1; simp only [Bool.and_eq_true] at h1; exact ⟨h1.1.1.1, h1.1.1.2⟩, fun d hd => ?_, fun e he hb => ?_, fun j o' hj => ?_⟩
  · rw [hd] at h2; simpa using h2
  · have := h3 e (by simpa using he)
    rw [hb] at this
    simp only [Bool.not_true, Bool.false_or, Bool.and_eq_true, decide_eq_true_eq, Bool.or_eq_true, Bool.not_eq_true'] at this
    refine ⟨this.1, fun hf => ?_⟩
    rcases this.2 with h | h
    · rw [hf] at h; cases h
    · exact h
  · have h5 := h4 j (List.mem_range.2 (List.getElem?_eq_some_iff.1 hj).1)
    simp only [hj, Bool.and_eq_true] at h5
    obtain ⟨h6, h7, h8⟩ := h5
    refine ⟨fun hne d hd hd' => ?_, fun hdep d hd hm => ?_, fun hN => ⟨fun hfj => ?_, fun hfj hlt => ?_⟩⟩
    · rcases Bool.or_eq_true_iff.1 h6 with h6 | h6
      · exact hne (by simpa using h6)
      · unfold dstB at h6
        rw [hd, hd'] at h6
        simp at h6
    · rw [hdep, hd] at h7
      simp only [Bool.false_or, Bool.not_eq_true'] at h7
      unfold looksB at h7
      rw [List.any_eq_false] at h7
      exact absurd (h7 _ (by simpa using hm)) (by simp)
    · rw [hN, hfj] at h8
      simpa using h8
    · rw [hN, hfj] at h8
      simp only [Bool.false_or, Bool.false_eq_true, if_false, Bool.or_eq_true, decide_eq_true_eq] at h8
      rcases h8 with h8 | h8
      · omega
      · exact h8
theorem wpAny_tailG {fb ls : Nat → Bool} {size : Nat} {l : List Oper} {Q : Exit → Act → World → Prop} (hB : growGB md fb ls size l = true) : ∀ (R : List Nat) (listed : Array Bool) (b : Act) (w : World), R.Pairwise (· < ·) → (∀ r ∈ R, fb r = false ∧ r < l.length) → listed.size = l.length → (∀ i, i < l.length → listed.getD i false = !R.contains i) →
    (∀ i o, l[i]? = some o → listed.getD i false = true → ∀ e ∈ o.after, Region.binds md e = true → listed.getD e.on false = true) →
    wpList P l.toArray Q (R.filterMap fun i => l[i]?) b w → wpAny P md l.toArray Q R.length listed b w
  | [], listed, b, w, _, _, hs, hl, _, h => by
    refine ⟨?_, h⟩
    refine List.eq_nil_iff_forall_not_mem.2 fun j hj => ?_
    obtain ⟨h1, o, ho, _⟩ := mem_ready.1 hj
    have hlt : j < l.length := by simpa using (Array.getElem?_eq_some_iff.1 ho).1
    have h2 := hl j hlt
    rw [Array.getD_eq_getD_getElem?, Array.getElem?_eq_getElem (by omega)] at h1 h2
    simp at h1 h2
    rw [h1] at h2; cases h2
  | r :: R, listed, b, w, hp, hr, hs, hl, hcl, h => by
    obtain ⟨hfr, hrl⟩ := hr r List.mem_cons_self
    obtain ⟨o, ho⟩ : ∃ o, l[r]? = some o := ⟨_, List.getElem?_eq_getElem hrl⟩
    have hon : l.toArray[r]? = some o := by simpa using ho
    obtain ⟨hg0, _, hdep, hall⟩ := growGB_spec hB ho
    have hg : o.guard = none := by
      cases hgo : o.guard with
      | none => rfl
      | some p =>
        have := (hg0 p.1 p.2 hgo).1
        rw [hfr] at this; cases this
    rw [List.pairwise_cons] at hp
    have hget : ∀ i, i < l.length → ∀ d, listed.getD i d = !(r :: R).contains i := fun i hi d => by
      have := hl i hi
      rw [Array.getD_eq_getD_getElem?, Array.getElem?_eq_getElem (by omega)] at this ⊢
      exact this
    have hless : ∀ i, i < r → i < l.length → listed.getD i false = true := fun i hi hil => by
      rw [hl i hil]
      have : (r :: R).contains i = false := by
        rw [List.contains_eq_mem, decide_eq_false_iff_not]
        intro hm
        rcases List.mem_cons.1 hm with h | h
        · omega
        · have := hp.1 i h; omega
      rw [this]; rfl
    have hready : r ∈ Region.ready md l.toArray listed := by
      rw [mem_ready]
      refine ⟨by rw [hget r hrl]; simp, o, hon, fun e he hb => ?_⟩
      have := (hdep e he hb).1
      exact hless e.on this (by omega)
    refine ⟨fun h0 => absurd hready (by rw [h0]; simp), fun j hj => ?_⟩
    have hjk : j = r := by
      obtain ⟨h1, o', ho', h2⟩ := mem_ready.1 hj
      have ho'' : l[j]? = some o' := by simpa using ho'
      have hlt := (List.getElem?_eq_some_iff.1 ho'').1
      rw [hget j hlt] at h1
      have hjm : j ∈ r :: R := by
        simp only [Bool.not_eq_false'] at h1
        exact List.contains_iff_mem.1 h1
      rcases List.mem_cons.1 hjm with h3 | h3
      · exact h3
      · have hfj := (hr j (List.mem_cons_of_mem _ h3)).1
        have hlt2 := hp.1 j h3
        have h4 := ((growGB_spec hB ho'').2.2.2 r o ho).2.2 hfj |>.2 hfr hlt2
        have h5 := anc_listed hcl _ _ _ _ ho'' h2 h4
        rw [hget r hrl] at h5
        simp at h5
    subst hjk
    simp only [List.filterMap_cons, ho] at h
    have hw : Region.wanted o (yielded l.toArray b.tmps) = true := by simp [Region.wanted, hg]
    simp only [wpList, hw, if_true] at h
    unfold wpOp
    simp only [hon, hw, if_true]
    have hgs : ∀ i, (listed.setIfInBounds j true).getD i false = (listed.getD i false || i == j) := fun i => by
      by_cases e : j = i
      · subst e
        rw [Array.getD_eq_getD_getElem?, Array.getElem?_setIfInBounds_self_of_lt (by omega)]
        simp
      · rw [getD_set_ne false e]
        have : (i == j) = false := by simp; exact fun h => e h.symm
        rw [this, Bool.or_false]
    have hnext : ∀ b' w', wpList P l.toArray Q (R.filterMap fun i => l[i]?) b' w' → wpAny P md l.toArray Q R.length (listed.setIfInBounds j true) b' w' := fun b' w' h' =>
      wpAny_tailG hB R _ b' w' hp.2 (fun q hq => hr q (List.mem_cons_of_mem _ hq)) (by simpa using hs) (fun i hi => by
        rw [hgs, hl i hi]
        by_cases e : i = j
        · subst e
          have : R.contains i = false := by
            rw [List.contains_eq_mem, decide_eq_false_iff_not]
            intro hm
            have := hp.1 i hm; omega
          rw [this]; simp
        · have e1 : (i == j) = false := by simp [e]
          rw [e1, Bool.or_false, List.contains_cons, e1, Bool.false_or]) (fun i o' ho' hi e he hb => by
        rw [hgs] at hi ⊢
        rcases Bool.or_eq_true_iff.1 hi with hi | hi
        · rw [hcl i o' ho' hi e he hb]; rfl
        · have : i = j := by simpa using hi
          subst this
          rw [ho] at ho'
          injection ho' with ho'
          subst ho'
          have := (hdep e he hb).1
          rw [hless e.on this (by omega)]; rfl) h'
    rcases h with h | h
    · exact .inl (Oper.wp_mono hnext h)
    · exact .inr h
end
section
variable {P : Program} {md : Region.Mode}
def stepsG (P : Program) (md : Region.Mode) (ops : List Oper) (fb : Nat → Bool) (a : Act) (C : World → Prop) (G : Nat → Value → World → World → Prop) (F : Nat → Value → World → Prop) : Nat → List Oper → Prop
  | _, [] => True
  | k, o :: l => match fb k with
    | true => (∀ vs w, C w → (∀ i, depsB md o i = true → F i (vs i) w) → wpList P ops.toArray (fun e c w' => e = .normal ∧ ∃ v, c = (stL ops 0 (depsB md o) vs a).put o.dst v ∧ (F k v w' ∧ G k v w w')) [o] (stL ops 0 (depsB md o) vs a) w) ∧ stepsG P md ops fb a C G F (k + 1) l
    | false => stepsG P md ops fb a C G F (k + 1) l
theorem stepsG_at {ops : List Oper} {fb : Nat → Bool} {a : Act} {C : World → Prop} {G : Nat → Value → World → World → Prop} {F : Nat → Value → World → Prop} : ∀ (l : List Oper) (k j : Nat) (o : Oper), stepsG P md ops fb a C G F k l → l[j]? = some o → fb (k + j) = true →
    ∀ vs w, C w → (∀ i, depsB md o i = true → F i (vs i) w) → wpList P ops.toArray (fun e c w' => e = .normal ∧ ∃ v, c = (stL ops 0 (depsB md o) vs a).put o.dst v ∧ (F (k + j) v w' ∧ G (k + j) v w w')) [o] (stL ops 0 (depsB md o) vs a) w
  | [], _, _, _, _, h, _ => by simp at h
  | o :: l, k, 0, o', hs, h, hf => by
    simp only [List.getElem?_cons_zero, Option.some.injEq] at h
    subst h
    simp only [stepsG] at hs
    rw [Nat.add_zero] at hf
    rw [hf] at hs
    exact hs.1
  | o :: l, k, j + 1, o', hs, h, hf => by
    rw [show k + (j + 1) = k + 1 + j by omega] at hf ⊢
    have hs' : stepsG P md ops fb a C G F (k + 1) l := by
      simp only [stepsG] at hs
      cases hk : fb k with
      | true => rw [hk] at hs; exact hs.2
      | false => rw [hk] at hs; exact hs
    exact stepsG_at l (k + 1) j o' hs' (by simpa using h) hf
theorem wpAny_growG {fb : Nat → Bool} {l : List Oper} {a : Act} {Q : Exit → Act → World → Prop} {C : World → Prop} {G : Nat → Value → World → World → Prop} {H : World → World → Prop} {F : Nat → Value → World → Prop} (hQ : ∀ c a w, ¬ Q (.panic c) a w) (hB : growGB md fb (fun _ => false) a.tmps.size l = true)
    (hst : ∀ j x w w', C w → G j x w w' → C w' ∧ (∀ i, fb i = true → ∀ v, F i v w → F i v w') ∧ H w' w' ∧ ∀ w0, H w0 w → H w0 w') (hs : stepsG P md l fb a C G F 0 l)
    (hf : ∀ vs w', C w' → (∀ i, i < l.length → fb i = true → F i (vs i) w') → (∀ i j, i < l.length → j < l.length → fb i = true → fb j = true → i ≠ j → Prior4 F G H i j (vs i) (vs j) w' ∨ Prior4 F G H j i (vs j) (vs i) w') → wpList P l.toArray Q (((List.range l.length).filter fun i => !fb i).filterMap fun i => l[i]?) (stL l 0 fb vs a) w') :
    ∀ (fuel : Nat) (listed : Array Bool) (w : World) (vs : Nat → Value), (List.range l.length).countP (fun i => !listed.getD i false) = fuel → listed.size = l.length → (∀ i, i < l.length → fb i = false → listed.getD i false = false) →
      (∀ i o, l[i]? = some o → listed.getD i false = true → ∀ e ∈ o.after, Region.binds md e = true → listed.getD e.on false = true) → C w →
      (∀ i, listed.getD i false = true → F i (vs i) w) → (∀ i j, i ≠ j → listed.getD i false = true → listed.getD j false = true → Prior4 F G H i j (vs i) (vs j) w ∨ Prior4 F G H j i (vs j) (vs i) w) → wpAny P md l.toArray Q fuel listed (stL l 0 (fun i => listed.getD i false) vs a) w := by
  have hsel : ∀ (j : Nat) (o : Oper) cs b, l.toArray[j]? = some o → o.op ≠ .select cs b := by
    unfold growGB at hB
    rw [Bool.and_eq_true] at hB
    exact Region.noSelect_spec hB.1
  -- all that come first are done
  have full : ∀ (fuel : Nat) (listed : Array Bool) (w : World) (vs : Nat → Value), (List.range l.length).countP (fun i => !listed.getD i false) = fuel → listed.size = l.length → (∀ i, i < l.length → fb i = false → listed.getD i false = false) →
      (∀ i o, l[i]? = some o → listed.getD i false = true → ∀ e ∈ o.after, Region.binds md e = true → listed.getD e.on false = true) → C w →
      (∀ i, listed.getD i false = true → F i (vs i) w) → (∀ i j, i ≠ j → listed.getD i false = true → listed.getD j false = true → Prior4 F G H i j (vs i) (vs j) w ∨ Prior4 F G H j i (vs j) (vs i) w) → (∀ i, i < l.length → fb i = true → listed.getD i false = true) → wpAny P md l.toArray Q fuel listed (stL l 0 (fun i => listed.getD i false) vs a) w := by
    intro fuel listed w vs hc hsz ht hcl hC hF hP hfull
    have hl : ∀ i, i < l.length → listed.getD i false = fb i := fun i hi => by
      cases h : fb i with
      | true => exact hfull i hi h
      | false => exact ht i hi h
    have hfuel : ((List.range l.length).filter fun i => !fb i).length = fuel := by
      rw [← hc, ← List.countP_eq_length_filter]
      exact List.countP_congr fun i hi => by rw [hl i (List.mem_range.1 hi)]
    rw [← hfuel]
    have hsort : ((List.range l.length).filter fun i => !fb i).Pairwise (· < ·) := List.Pairwise.filter _ List.pairwise_lt_range
    refine wpAny_tailG hB _ listed _ w hsort (fun r hr => ?_) hsz (fun i hi => ?_) hcl ?_
    · rw [List.mem_filter, List.mem_range] at hr
      exact ⟨by simpa using hr.2, hr.1⟩
    · rw [hl i hi]
      have : ((List.range l.length).filter fun i => !fb i).contains i = !fb i := by
        rw [List.contains_eq_mem]
        cases h : fb i <;> simp [List.mem_filter, h, hi]
      rw [this, Bool.not_not]
    · have := hf vs w hC (fun i hi hfi => hF i (hfull i hi hfi)) (fun i j hi hj hfi hfj hn => hP i j hn (hfull i hi hfi) (hfull j hj hfj))
      rw [stL_congr l 0 _ fb vs vs a (fun i _ hi => ⟨hl i (by omega), fun _ => rfl⟩)]
      exact this
  intro fuel
  induction fuel with
  | zero =>
    intro listed w vs hc hsz ht hcl hC hF hP
    have hall := cnt_zero hc
    exact full 0 listed w vs hc hsz ht hcl hC hF hP (fun i hi _ => by simpa using hall i hi)
  | succ fuel ih =>
    intro listed w vs hc hsz ht hcl hC hF hP
    by_cases hfull : ∀ i, i < l.length → fb i = true → listed.getD i false = true
    · exact full (fuel + 1) listed w vs hc hsz ht hcl hC hF hP hfull
    · obtain ⟨m, hmN, hmun, hmin⟩ : ∃ m, (m < l.length ∧ fb m = true) ∧ listed.getD m false = false ∧ ∀ i, i < m → fb i = true → listed.getD i false = true := by
        have : ∃ m, (m < l.length ∧ fb m = true) ∧ listed.getD m false = false := by
          rcases Classical.not_forall.1 hfull with ⟨m, hm⟩
          rw [Classical.not_imp, Classical.not_imp] at hm
          exact ⟨m, ⟨hm.1, hm.2.1⟩, by simpa using hm.2.2⟩
        obtain ⟨m, h1, h2⟩ := this
        clear hfull
        induction m using Nat.strongRecOn with
        | _ m ihm =>
          by_cases h : ∃ i, i < m ∧ fb i = true ∧ listed.getD i false = false
          · obtain ⟨i, hi, hfi, hi2⟩ := h
            exact ihm i hi ⟨by omega, hfi⟩ hi2
          · refine ⟨m, h1, h2, fun i hi hfi => ?_⟩
            cases hv : listed.getD i false with
            | true => rfl
            | false => exact absurd ⟨i, hi, hfi, hv⟩ h
      have hgt : ∀ i, i < l.length → ∀ d, listed.getD i d = listed.getD i false := fun i hi d => by
        rw [Array.getD_eq_getD_getElem?, Array.getD_eq_getD_getElem?, Array.getElem?_eq_getElem (by omega)]
        rfl
      obtain ⟨om, hom⟩ : ∃ o, l[m]? = some o := ⟨_, List.getElem?_eq_getElem hmN.1⟩
      have hmdeps : ∀ e ∈ om.after, Region.binds md e = true → listed.getD e.on false = true := fun e he hb => by
        have := (growGB_spec hB hom).2.2.1 e he hb
        exact hmin e.on this.1 (this.2 hmN.2)
      have hready : m ∈ Region.ready md l.toArray listed := by
        rw [mem_ready]
        exact ⟨by rw [hgt m hmN.1]; exact hmun, om, by simpa using hom, hmdeps⟩
      have go : ∀ (j : Nat) (o : Oper) v w', fb j = true → l[j]? = some o → listed.getD j false = false → (∀ e ∈ o.after, Region.binds md e = true → listed.getD e.on false = true) → F j v w' → G j v w w' → wpAny P md l.toArray Q fuel (listed.setIfInBounds j true) ((stL l 0 (fun i => listed.getD i false) vs a).put o.dst v) w' := by
        intro j o v w' hjN ho h1 h2 hFv hG
        obtain ⟨_, _, _, hall⟩ := growGB_spec hB ho
        have hlt := (List.getElem?_eq_some_iff.1 ho).1
        obtain ⟨hC', hst', hrfl, htr⟩ := hst j v w w' hC hG
        have hadd := stL_add l 0 j (fun i => listed.getD i false) vs a o v ho (by rw [Nat.zero_add]; exact h1) (fun i o' hi hne d hd => (hall i o' hi).1 (fun e => hne e.symm) d hd)
        simp only [Nat.zero_add] at hadd
        have hget : ∀ i, (listed.setIfInBounds j true).getD i false = (listed.getD i false || i == j) := fun i => by
          by_cases e : j = i
          · subst e
            rw [Array.getD_eq_getD_getElem?, Array.getElem?_setIfInBounds_self_of_lt (by omega)]
            simp
          · rw [getD_set_ne false e]
            have : (i == j) = false := by simp; exact fun h => e h.symm
            rw [this, Bool.or_false]
        rw [← hadd, ← stL_congr l 0 (fun i => (listed.setIfInBounds j true).getD i false) _ (fun i => if i = j then v else vs i) _ a (fun i _ _ => ⟨hget i, fun _ => rfl⟩)]
        refine ih (listed.setIfInBounds j true) w' (fun i => if i = j then v else vs i) ?_ (by simpa using hsz) (fun i hi hNi => ?_) (fun i o' ho' hi e he hb => ?_) hC' (fun i hl => ?_) (fun i i' hne hl hl' => ?_)
        · have := cnt_set l.length (fun i => !listed.getD i false) (fun i => !(listed.setIfInBounds j true).getD i false) j hlt (by rw [h1]; rfl) (by rw [hget]; simp) (fun i hi => by rw [hget]; simp [hi])
          omega
        · rw [hget, ht i hi hNi]
          have : (i == j) = false := by
            simp
            intro e
            subst e
            rw [hjN] at hNi; cases hNi
          rw [this]; rfl
        · rw [hget] at hi ⊢
          rcases Bool.or_eq_true_iff.1 hi with hi | hi
          · rw [hcl i o' ho' hi e he hb]; rfl
          · have : i = j := by simpa using hi
            subst this
            rw [ho] at ho'
            injection ho' with ho'
            subst ho'
            rw [h2 e he hb]; rfl
        · rw [hget] at hl
          by_cases e : i = j
          · subst e; simpa using hFv
          · rw [if_neg e]
            have : (i == j) = false := by simp [e]
            rw [this, Bool.or_false] at hl
            refine hst' i ?_ _ (hF i hl)
            cases hfi : fb i with
            | true => rfl
            | false =>
              have hil : i < l.length := by
                rcases Nat.lt_or_ge i listed.size with h | h
                · omega
                · rw [Array.getD_eq_getD_getElem?, Array.getElem?_eq_none h] at hl; simp at hl
              rw [ht i hil hfi] at hl; cases hl
        · rw [hget] at hl hl'
          by_cases e : i = j
          · subst e
            have e' : (i' == i) = false := by simp; exact fun h => hne h.symm
            rw [e', Bool.or_false] at hl'
            have e2 : ¬ i' = i := fun h => hne h.symm
            simp only [if_true, e2, if_false]
            exact .inr ⟨w, w', hF i' hl', hG, hrfl⟩
          · have e1 : (i == j) = false := by simp; exact e
            rw [e1, Bool.or_false] at hl
            by_cases e' : i' = j
            · subst e'
              simp only [if_true, e, if_false]
              exact .inl ⟨w, w', hF i hl, hG, hrfl⟩
            · have e2 : (i' == j) = false := by simp; exact e'
              rw [e2, Bool.or_false] at hl'
              simp only [e, e', if_false]
              exact (hP i i' hne hl hl').imp (fun ⟨x, y, f, g, h⟩ => ⟨x, y, f, g, htr y h⟩) (fun ⟨x, y, f, g, h⟩ => ⟨x, y, f, g, htr y h⟩)
      have dl : ∀ o, (∀ e ∈ o.after, Region.binds md e = true → listed.getD e.on false = true) → ∀ i, depsB md o i = true → listed.getD i false = true := fun o h2 i hi => by
        obtain ⟨e, he, hb, rfl⟩ := depsB_mem hi
        exact h2 e he hb
      have alike : ∀ (j : Nat) (o : Oper), l[j]? = some o → (∀ e ∈ o.after, Region.binds md e = true → listed.getD e.on false = true) → Alike2 o (stL l 0 (fun i => listed.getD i false) vs a) (stL l 0 (depsB md o) vs a) := by
        intro j o ho h2
        obtain ⟨_, _, hdep, hall⟩ := growGB_spec hB ho
        refine stL_alike l 0 _ _ vs a a (fun i o' hi hne d hd => ?_) ⟨rfl, fun _ _ => rfl⟩
        rw [Nat.zero_add] at hne
        refine (hall i o' hi).2.1 ?_ d hd
        cases hdp : depsB md o i with
        | false => rfl
        | true => rw [dl o h2 i hdp, hdp] at hne; exact absurd rfl hne
      · obtain ⟨i0, hi0, hf0, hun0⟩ : ∃ i, i < l.length ∧ fb i = true ∧ listed.getD i false = false := ⟨m, hmN.1, hmN.2, hmun⟩
        obtain ⟨o0, ho0⟩ : ∃ o, l[i0]? = some o := ⟨_, List.getElem?_eq_getElem hi0⟩
        refine ⟨fun h0 => absurd hready (by rw [h0]; simp), fun j hj => ?_⟩
        obtain ⟨h1, o, ho', h2⟩ := mem_ready.1 hj
        have ho : l[j]? = some o := by simpa using ho'
        have hlt := (List.getElem?_eq_some_iff.1 ho).1
        rw [hgt j hlt] at h1
        obtain ⟨hg, hdst, hdep, hall⟩ := growGB_spec hB ho
        have hjN : fb j = true := by
          cases hfj : fb j with
          | true => rfl
          | false =>
            rcases ((hall i0 o0 ho0).2.2 hfj).1 hf0 with h3 | h3
            · cases h3
            · have := anc_listed hcl _ _ _ _ ho h2 h3
              rw [hun0] at this; cases this
        have hstep := stepsG_at l 0 j o hs ho (by rw [Nat.zero_add]; exact hjN) vs w hC (fun i hi => hF i (dl o h2 i hi))
        rw [Nat.zero_add] at hstep
        have hwe : Region.wanted o (yielded l.toArray (stL l 0 (fun i => listed.getD i false) vs a).tmps) = Region.wanted o (yielded l.toArray (stL l 0 (depsB md o) vs a).tmps) := by
          cases hgo : o.guard with
          | none => simp [Region.wanted, hgo]
          | some p =>
            obtain ⟨g, c⟩ := p
            have hd := (hg g c hgo).2
            have hlg := dl o h2 g hd
            simp only [Region.wanted, hgo]
            congr 1
            unfold yielded
            cases hog : l[g]? with
            | none => simp [hog]
            | some og =>
              cases hdd : og.dst with
              | none => simp [hog, hdd]
              | some d =>
                obtain ⟨_, hds, _, halg⟩ := growGB_spec hB hog
                have hap : ∀ i o', l[i]? = some o' → i ≠ g → o'.dst ≠ some d := fun i o' hi hne => (halg i o' hi).1 (fun e => hne e.symm) d hdd
                have r1 := stL_at l 0 (fun i => listed.getD i false) vs a g og d hog hdd (hds d hdd) (by rw [Nat.zero_add]; exact hlg) hap
                have r2 := stL_at l 0 (depsB md o) vs a g og d hog hdd (hds d hdd) (by rw [Nat.zero_add]; exact hd) hap
                have hbind : ∀ A : Array Value, ((l.toArray[g]?).bind (·.dst)).bind (A[·]?) = A[d]? := fun A => by simp [hog, hdd]
                rw [hbind, hbind, r1, r2]
        unfold wpOp
        simp only [ho', hwe]
        cases hw : Region.wanted o (yielded l.toArray (stL l 0 (depsB md o) vs a).tmps) with
        | true =>
          simp only [if_true]
          left
          have hstep2 : wpList P #[{o with guard := none}] (fun e c w' => e = .normal ∧ ∃ v, c = (stL l 0 (depsB md o) vs a).put o.dst v ∧ (F j v w' ∧ G j v w w')) [{o with guard := none}] (stL l 0 (depsB md o) vs a) w := by
            unfold wpList at hstep ⊢
            rw [if_pos hw] at hstep
            rw [if_pos (by rfl)]
            exact hstep
          exact wp_move_frame (o := {o with guard := none}) rfl (fun cs b => hsel j o cs b ho') (alike j o ho h2) (fun d hd => by rw [stL_size]; exact hdst d hd) hstep2 (fun v w' h => go j o v w' hjN ho h1 h2 h.1 h.2)
        | false =>
          simp only [Bool.false_eq_true, if_false]
          unfold wpList at hstep
          rw [if_neg (by rw [hw]; decide)] at hstep
          obtain ⟨_, v, e, hFv, hGv⟩ := hstep
          have hgo := go j o v w hjN ho h1 h2 hFv hGv
          cases hdst2 : o.dst with
          | none => rw [hdst2] at hgo; exact hgo
          | some d =>
            rw [hdst2] at e hgo
            have hlt := hdst d hdst2
            have e2 : ((stL l 0 (depsB md o) vs a).put (some d) undef).tmps[d]? = ((stL l 0 (depsB md o) vs a).put (some d) v).tmps[d]? := by rw [e]
            simp only [Act.put] at e2
            rw [Array.getElem?_setIfInBounds_self_of_lt (by rw [stL_size]; exact hlt), Array.getElem?_setIfInBounds_self_of_lt (by rw [stL_size]; exact hlt)] at e2
            injection e2 with e2
            subst e2
            exact hgo
end
theorem wp_region_growG {P : Program} {id : Nat} {Q : Exit → Act → World → Prop} {a : Act} {w : World} {l : List Oper} (fb : Nat → Bool) (C : World → Prop) (G : Nat → Value → World → World → Prop) (H : World → World → Prop) (F : Nat → Value → World → Prop) (hm : P.follows .mixedOrders = true) (hB : growGB .any fb (fun _ => false) a.tmps.size l = true)
    (hC : C w.drew) (hst : ∀ j x w w', C w → G j x w w' → C w' ∧ (∀ i, fb i = true → ∀ v, F i v w → F i v w') ∧ H w' w' ∧ ∀ w0, H w0 w → H w0 w') (hs : stepsG P .any l fb a C G F 0 l)
    (hf : ∀ vs w', C w' → (∀ i, i < l.length → fb i = true → F i (vs i) w') → (∀ i j, i < l.length → j < l.length → fb i = true → fb j = true → i ≠ j → Prior4 F G H i j (vs i) (vs j) w' ∨ Prior4 F G H j i (vs j) (vs i) w') → wpList P l.toArray (fun e b w => e = .normal ∧ Q .normal b w) (((List.range l.length).filter fun i => !fb i).filterMap fun i => l[i]?) (stL l 0 fb vs a) w') : (Code.region id l.toArray true).wp P Q a w := by
  refine Code.wp_mono (Q := fun e b w => e = .normal ∧ Q .normal b w) (fun e b w h => by obtain ⟨rfl, h⟩ := h; exact h) ?_
  refine wp_region_any hm ?_
  have hn : ∀ i, (Array.replicate l.toArray.size false).getD i false = false := fun i => by
    simp [Array.getD_eq_getD_getElem?, Array.getElem?_replicate]
    split <;> rfl
  have h0 : stL l 0 (fun i => (Array.replicate l.toArray.size false).getD i false) (fun _ => undef) a = a := by
    rw [stL_congr l 0 _ (fun _ => false) (fun _ => undef) (fun _ => undef) a (fun i _ hi => ⟨hn i, fun _ => rfl⟩)]
    exact stL_none _ _ _ _
  have := wpAny_growG (Q := fun e b w => e = .normal ∧ Q .normal b w) (C := C) (G := G) (H := H) (F := F) (fun c a w h => absurd h.1 (by simp)) hB hst hs hf l.toArray.size (Array.replicate l.toArray.size false) w.drew (fun _ => undef) (by
    rw [List.countP_eq_length.2 (fun i hi => by rw [hn]; rfl)]
    simp) (by simp) (fun i hi _ => hn i) (fun i o _ h => by rw [hn] at h; cases h) hC (fun i h => by rw [hn] at h; cases h) (fun i j _ h => by rw [hn] at h; cases h)
  rw [h0] at this
  exact this
theorem wpList_want {P : Program} {ops : Array Oper} {Q : Exit → Act → World → Prop} {rest : List Oper} {a : Act} {w : World} {d : Option Tmp} {op : Op} {t : TypeId} {p : String} {af : Array Edge} {g : Option (Nat × Bool)}
    (hw : Region.wanted (Oper.mk d op t p af g) (yielded ops a.tmps) = true) (h : wpList P ops Q (Oper.mk d op t p af none :: rest) a w) : wpList P ops Q (Oper.mk d op t p af g :: rest) a w := by
  unfold wpList at h ⊢
  rw [if_pos hw]
  rw [if_pos (by rfl)] at h
  exact h
end Go.Proofs.Ytmdfgidejdiiiaa
end
section
namespace Go.Proofs.Ytmdfgidejdiiiaa
open Go.RowKit
theorem RatQ.keptT {b g : Nat} {w w' : World} {v : Value} {z : Rat} {K : Nat} {t : TypeId} (h : RatQ b w v z K) (hg : w.grownBy w' (some g)) (ht : TyB w g t) (hn : t ≠ 77) : RatQ b w' v z K := by
  obtain ⟨p, q, ⟨ng, A, c, l, B, d, r, e, ⟨o, m⟩, o', m'⟩, hr⟩ := h
  exact ⟨p, q, ⟨ng, A, c, l, B, d, r, e, ⟨o.keptT hg ht hn, m⟩, o'.keptT hg ht hn, m'⟩, hr⟩
end Go.Proofs.Ytmdfgidejdiiiaa
end
