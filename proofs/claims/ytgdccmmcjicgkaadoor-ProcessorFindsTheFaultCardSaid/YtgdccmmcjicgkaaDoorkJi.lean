/- A law over drawn regions whose facts may speak of what several operations yield: as wp_region_grow8 (XJ8), with one fact I over all that is done.. -/
import Derived.Test.YtgdccmmcjicgkaaDoorkJ2toJ8
set_option linter.unusedVariables false
set_option linter.unusedSimpArgs false
namespace Go.Proofs.YtgdccmmcjicgkaaDoor
open Go.RowKit
section
variable {P : Program} {md : Region.Mode}
def stepsI (P : Program) (md : Region.Mode) (ops : List Oper) (fb : Nat → Bool) (a : Act) (I : (Nat → Bool) → (Nat → Value) → World → Prop) : Nat → List Oper → Prop
  | _, [] => True
  | k, o :: l => match fb k with
    | true => (∀ S vs w, S k = false → (∀ i, depsB md o i = true → S i = true) → I S vs w → wpList P #[o] (fun e c w' => e = .normal ∧ ∃ v, c = (stL ops 0 (depsB md o) vs a).put o.dst v ∧ I (fun i => S i || i == k) (fun i => if i = k then v else vs i) w') [o] (stL ops 0 (depsB md o) vs a) w) ∧ stepsI P md ops fb a I (k + 1) l
    | false => stepsI P md ops fb a I (k + 1) l
theorem stepsI_at {ops : List Oper} {fb : Nat → Bool} {a : Act} {I : (Nat → Bool) → (Nat → Value) → World → Prop} : ∀ (l : List Oper) (k j : Nat) (o : Oper), stepsI P md ops fb a I k l → l[j]? = some o → fb (k + j) = true →
    ∀ S vs w, S (k + j) = false → (∀ i, depsB md o i = true → S i = true) → I S vs w → wpList P #[o] (fun e c w' => e = .normal ∧ ∃ v, c = (stL ops 0 (depsB md o) vs a).put o.dst v ∧ I (fun i => S i || i == (k + j)) (fun i => if i = k + j then v else vs i) w') [o] (stL ops 0 (depsB md o) vs a) w
  | [], _, _, _, _, h, _ => by simp at h
  | o :: l, k, 0, o', hs, h, hf => by
    simp only [List.getElem?_cons_zero, Option.some.injEq] at h
    subst h
    unfold stepsI at hs
    rw [Nat.add_zero] at hf ⊢
    rw [hf] at hs
    exact hs.1
  | o :: l, k, j + 1, o', hs, h, hf => by
    have e : k + (j + 1) = k + 1 + j := by omega
    rw [e] at hf ⊢
    refine stepsI_at l (k + 1) j o' ?_ (by simpa using h) hf
    unfold stepsI at hs
    split at hs
    · exact hs.2
    · exact hs
theorem wpAny_growI {fb : Nat → Bool} {l : List Oper} {a : Act} {Q : Exit → Act → World → Prop} {I : (Nat → Bool) → (Nat → Value) → World → Prop} (hQ : ∀ c a w, ¬ Q (.panic c) a w) (hB : grow8B md fb (fun _ => false) a.tmps.size l = true)
    (hs : stepsI P md l fb a I 0 l)
    (hf : ∀ S vs w', (∀ i, i < l.length → S i = fb i) → I S vs w' → wpList P l.toArray Q (((List.range l.length).filter fun i => !fb i).filterMap fun i => l[i]?) (stL l 0 fb vs a) w') :
    ∀ (fuel : Nat) (listed : Array Bool) (w : World) (vs : Nat → Value), (List.range l.length).countP (fun i => !listed.getD i false) = fuel → listed.size = l.length → (∀ i, i < l.length → fb i = false → listed.getD i false = false) →
      (∀ i o, l[i]? = some o → listed.getD i false = true → ∀ e ∈ o.after, Region.binds md e = true → listed.getD e.on false = true) → I (fun i => listed.getD i false) vs w → wpAny P md l.toArray Q fuel listed (stL l 0 (fun i => listed.getD i false) vs a) w := by
  have hsel : ∀ (j : Nat) (o : Oper) cs b, l.toArray[j]? = some o → o.op ≠ .select cs b := by
    unfold grow8B at hB
    rw [Bool.and_eq_true] at hB
    exact Region.noSelect_spec hB.1
  -- all that come first are done
  have full : ∀ (fuel : Nat) (listed : Array Bool) (w : World) (vs : Nat → Value), (List.range l.length).countP (fun i => !listed.getD i false) = fuel → listed.size = l.length → (∀ i, i < l.length → fb i = false → listed.getD i false = false) →
      (∀ i o, l[i]? = some o → listed.getD i false = true → ∀ e ∈ o.after, Region.binds md e = true → listed.getD e.on false = true) → I (fun i => listed.getD i false) vs w → (∀ i, i < l.length → fb i = true → listed.getD i false = true) → wpAny P md l.toArray Q fuel listed (stL l 0 (fun i => listed.getD i false) vs a) w := by
    intro fuel listed w vs hc hsz ht hcl hC hfull
    have hl : ∀ i, i < l.length → listed.getD i false = fb i := fun i hi => by
      cases h : fb i with
      | true => exact hfull i hi h
      | false => exact ht i hi h
    have hfuel : ((List.range l.length).filter fun i => !fb i).length = fuel := by
      rw [← hc, ← List.countP_eq_length_filter]
      exact List.countP_congr fun i hi => by rw [hl i (List.mem_range.1 hi)]
    rw [← hfuel]
    have hsort : ((List.range l.length).filter fun i => !fb i).Pairwise (· < ·) := List.Pairwise.filter _ List.pairwise_lt_range
    refine wpAny_tail8 hB _ listed _ w hsort (fun r hr => ?_) hsz (fun i hi => ?_) hcl ?_
    · rw [List.mem_filter, List.mem_range] at hr
      exact ⟨by simpa using hr.2, hr.1⟩
    · rw [hl i hi]
      have : ((List.range l.length).filter fun i => !fb i).contains i = !fb i := by
        rw [List.contains_eq_mem]
        cases h : fb i <;> simp [List.mem_filter, h, hi]
      rw [this, Bool.not_not]
    · have := hf _ vs w hl hC
      rw [stL_congr l 0 _ fb vs vs a (fun i _ hi => ⟨hl i (by omega), fun _ => rfl⟩)]
      exact this
  intro fuel
  induction fuel with
  | zero =>
    intro listed w vs hc hsz ht hcl hC
    have hall := cnt_zero hc
    exact full 0 listed w vs hc hsz ht hcl hC (fun i hi _ => by simpa using hall i hi)
  | succ fuel ih =>
    intro listed w vs hc hsz ht hcl hC
    by_cases hfull : ∀ i, i < l.length → fb i = true → listed.getD i false = true
    · exact full (fuel + 1) listed w vs hc hsz ht hcl hC hfull
    · obtain ⟨m, hmN, hmun, hmin⟩ : ∃ m, (m < l.length ∧ fb m = true) ∧ listed.getD m false = false ∧ ∀ i, i < m → fb i = true → listed.getD i false = true := by
        have : ∃ m, (m < l.length ∧ fb m = true) ∧ listed.getD m false = false := by
          rcases Classical.not_forall.1 hfull with ⟨m, hm⟩
          rw [Classical.not_imp, Classical.not_imp] at hm
          exact ⟨m, ⟨hm.1, hm.2.1⟩, by simpa using hm.2.2⟩
        obtain ⟨m, h1, h2⟩ := this
        clear hfull
        induction m using Nat.strongRecOn with
        | _ m ihm =>
          by_cases h : ∃ i, i < m ∧ fb i = true ∧ listed.getD i false = false
          · obtain ⟨i, hi, hfi, hi2⟩ := h
            exact ihm i hi ⟨by omega, hfi⟩ hi2
          · refine ⟨m, h1, h2, fun i hi hfi => ?_⟩
            cases hv : listed.getD i false with
            | true => rfl
            | false => exact absurd ⟨i, hi, hfi, hv⟩ h
      have hgt : ∀ i, i < l.length → ∀ d, listed.getD i d = listed.getD i false := fun i hi d => by
        rw [Array.getD_eq_getD_getElem?, Array.getD_eq_getD_getElem?, Array.getElem?_eq_getElem (by omega)]
        rfl
      obtain ⟨om, hom⟩ : ∃ o, l[m]? = some o := ⟨_, List.getElem?_eq_getElem hmN.1⟩
      have hmdeps : ∀ e ∈ om.after, Region.binds md e = true → listed.getD e.on false = true := fun e he hb => by
        have := (grow8B_spec hB hom).2.2.1 e he hb
        exact hmin e.on this.1 (this.2 hmN.2)
      have hready : m ∈ Region.ready md l.toArray listed := by
        rw [mem_ready]
        exact ⟨by rw [hgt m hmN.1]; exact hmun, om, by simpa using hom, hmdeps⟩
      have go : ∀ (j : Nat) (o : Oper) v w', fb j = true → l[j]? = some o → listed.getD j false = false → (∀ e ∈ o.after, Region.binds md e = true → listed.getD e.on false = true) → I (fun i => listed.getD i false || i == j) (fun i => if i = j then v else vs i) w' → wpAny P md l.toArray Q fuel (listed.setIfInBounds j true) ((stL l 0 (fun i => listed.getD i false) vs a).put o.dst v) w' := by
        intro j o v w' hjN ho h1 h2 hI
        obtain ⟨_, _, _, hall⟩ := grow8B_spec hB ho
        have hlt := (List.getElem?_eq_some_iff.1 ho).1
        have hadd := stL_add l 0 j (fun i => listed.getD i false) vs a o v ho (by rw [Nat.zero_add]; exact h1) (fun i o' hi hne d hd => (hall i o' hi).1 (fun e => hne e.symm) d hd)
        simp only [Nat.zero_add] at hadd
        have hget : ∀ i, (listed.setIfInBounds j true).getD i false = (listed.getD i false || i == j) := fun i => by
          by_cases e : j = i
          · subst e
            rw [Array.getD_eq_getD_getElem?, Array.getElem?_setIfInBounds_self_of_lt (by omega)]
            simp
          · rw [getD_set_ne false e]
            have : (i == j) = false := by simp; exact fun h => e h.symm
            rw [this, Bool.or_false]
        rw [← hadd, ← stL_congr l 0 (fun i => (listed.setIfInBounds j true).getD i false) _ (fun i => if i = j then v else vs i) _ a (fun i _ _ => ⟨hget i, fun _ => rfl⟩)]
        refine ih (listed.setIfInBounds j true) w' (fun i => if i = j then v else vs i) ?_ (by simpa using hsz) (fun i hi hNi => ?_) (fun i o' ho' hi e he hb => ?_) (by rw [show (fun i => (listed.setIfInBounds j true).getD i false) = (fun i => listed.getD i false || i == j) from funext hget]; exact hI)
        · have := cnt_set l.length (fun i => !listed.getD i false) (fun i => !(listed.setIfInBounds j true).getD i false) j hlt (by rw [h1]; rfl) (by rw [hget]; simp) (fun i hi => by rw [hget]; simp [hi])
          omega
        · rw [hget, ht i hi hNi]
          have : (i == j) = false := by
            simp
            intro e
            subst e
            rw [hjN] at hNi; cases hNi
          rw [this]; rfl
        · rw [hget] at hi ⊢
          rcases Bool.or_eq_true_iff.1 hi with hi | hi
          · rw [hcl i o' ho' hi e he hb]; rfl
          · have : i = j := by simpa using hi
            subst this
            rw [ho] at ho'
            injection ho' with ho'
            subst ho'
            rw [h2 e he hb]; rfl
      have dl : ∀ o, (∀ e ∈ o.after, Region.binds md e = true → listed.getD e.on false = true) → ∀ i, depsB md o i = true → listed.getD i false = true := fun o h2 i hi => by
        obtain ⟨e, he, hb, rfl⟩ := depsB_mem hi
        exact h2 e he hb
      have alike : ∀ (j : Nat) (o : Oper), l[j]? = some o → (∀ e ∈ o.after, Region.binds md e = true → listed.getD e.on false = true) → Alike2 o (stL l 0 (fun i => listed.getD i false) vs a) (stL l 0 (depsB md o) vs a) := by
        intro j o ho h2
        obtain ⟨_, _, hdep, hall⟩ := grow8B_spec hB ho
        refine stL_alike l 0 _ _ vs a a (fun i o' hi hne d hd => ?_) ⟨rfl, fun _ _ => rfl⟩
        rw [Nat.zero_add] at hne
        refine (hall i o' hi).2.1 (.inl ?_) ?_ d hd
        · cases hfi : fb i with
          | true => rfl
          | false =>
            have hil := (List.getElem?_eq_some_iff.1 hi).1
            have h0 := ht i hil hfi
            cases hdp : depsB md o i with
            | true => rw [dl o h2 i hdp] at h0; cases h0
            | false => rw [h0, hdp] at hne; exact absurd rfl hne
        cases hdp : depsB md o i with
        | false => rfl
        | true => rw [dl o h2 i hdp, hdp] at hne; exact absurd rfl hne
      obtain ⟨o0, ho0⟩ : ∃ o, l[m]? = some o := ⟨_, List.getElem?_eq_getElem hmN.1⟩
      refine ⟨fun h0 => absurd hready (by rw [h0]; simp), fun j hj => ?_⟩
      obtain ⟨h1, o, ho', h2⟩ := mem_ready.1 hj
      have ho : l[j]? = some o := by simpa using ho'
      have hlt := (List.getElem?_eq_some_iff.1 ho).1
      rw [hgt j hlt] at h1
      obtain ⟨hg, hdst, hdep, hall⟩ := grow8B_spec hB ho
      have hjN : fb j = true := by
        cases hfj : fb j with
        | true => rfl
        | false =>
          rcases ((hall m o0 ho0).2.2 hfj).1 hmN.2 with h3 | h3
          · cases h3
          · have := anc_listed hcl _ _ _ _ ho h2 h3
            rw [hmun] at this; cases this
      have hstep := stepsI_at l 0 j o hs ho (by rw [Nat.zero_add]; exact hjN) (fun i => listed.getD i false) vs w (by rw [Nat.zero_add]; exact h1) (dl o h2) hC
      simp only [Nat.zero_add] at hstep
      have hw : Region.wanted o (yielded l.toArray (stL l 0 (fun i => listed.getD i false) vs a).tmps) = true := by simp [Region.wanted, hg]
      unfold wpOp
      simp only [ho', hw, if_true]
      left
      exact wp_move_frame hg (fun cs b => hsel j o cs b ho') (alike j o ho h2) (fun d hd => by rw [stL_size]; exact hdst d hd) hstep (fun v w' h => go j o v w' hjN ho h1 h2 h)
end
theorem wp_region_growI {P : Program} {id : Nat} {Q : Exit → Act → World → Prop} {a : Act} {w : World} {l : List Oper} (fb : Nat → Bool) (I : (Nat → Bool) → (Nat → Value) → World → Prop) (hm : P.follows .mixedOrders = true) (hB : grow8B .any fb (fun _ => false) a.tmps.size l = true)
    (hI : I (fun _ => false) (fun _ => undef) w.drew) (hs : stepsI P .any l fb a I 0 l)
    (hf : ∀ S vs w', (∀ i, i < l.length → S i = fb i) → I S vs w' → wpList P l.toArray (fun e b w => e = .normal ∧ Q .normal b w) (((List.range l.length).filter fun i => !fb i).filterMap fun i => l[i]?) (stL l 0 fb vs a) w') : (Code.region id l.toArray true).wp P Q a w := by
  refine Code.wp_mono (Q := fun e b w => e = .normal ∧ Q .normal b w) (fun e b w h => by obtain ⟨rfl, h⟩ := h; exact h) ?_
  refine wp_region_any hm ?_
  have hn : ∀ i, (Array.replicate l.toArray.size false).getD i false = false := fun i => by
    simp [Array.getD_eq_getD_getElem?, Array.getElem?_replicate]
    split <;> rfl
  have h0 : stL l 0 (fun i => (Array.replicate l.toArray.size false).getD i false) (fun _ => undef) a = a := by
    rw [stL_congr l 0 _ (fun _ => false) (fun _ => undef) (fun _ => undef) a (fun i _ hi => ⟨hn i, fun _ => rfl⟩)]
    exact stL_none _ _ _ _
  have := wpAny_growI (Q := fun e b w => e = .normal ∧ Q .normal b w) (I := I) (fun c a w h => absurd h.1 (by simp)) hB hs hf l.toArray.size (Array.replicate l.toArray.size false) w.drew (fun _ => undef) (by
    rw [List.countP_eq_length.2 (fun i hi => by rw [hn]; rfl)]
    simp) (by simp) (fun i hi _ => hn i) (fun i o _ h => by rw [hn] at h; cases h) (by rw [show (fun i => (Array.replicate l.toArray.size false).getD i false) = (fun _ => false) from funext hn]; exact hI)
  rw [h0] at this
  exact this
end Go.Proofs.YtgdccmmcjicgkaaDoor
