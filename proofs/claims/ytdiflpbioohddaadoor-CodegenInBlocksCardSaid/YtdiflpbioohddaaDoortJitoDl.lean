/- Several texts in one: Ji Dk Dl. -/
import Derived.Test.YtdiflpbioohddaaDoortJ8
import Derived.Test.YtdiflpbioohddaaDoortCptoDh
import Derived.Test.YtdiflpbioohddaaDoortCtoCa
set_option linter.unusedVariables false
set_option linter.unusedSimpArgs false
section
namespace Go.Proofs.YtdiflpbioohddaaDoor
open Go.RowKit
section
variable {P : Program} {md : Region.Mode}
def stepsI (P : Program) (md : Region.Mode) (ops : List Oper) (fb : Nat → Bool) (a : Act) (I : (Nat → Bool) → (Nat → Value) → World → Prop) : Nat → List Oper → Prop
 | _, [] => True
 | k, o :: l => match fb k with
  | true => (∀ S vs w, S k = false → (∀ i, depsB md o i = true → S i = true) → I S vs w → wpList P #[o] (fun e c w' => e = .normal ∧ ∃ v, c = (stL ops 0 (depsB md o) vs a).put o.dst v ∧ I (fun i => S i || i == k) (fun i => if i = k then v else vs i) w') [o] (stL ops 0 (depsB md o) vs a) w) ∧ stepsI P md ops fb a I (k + 1) l
  | false => stepsI P md ops fb a I (k + 1) l
theorem stepsI_at {ops : List Oper} {fb : Nat → Bool} {a : Act} {I : (Nat → Bool) → (Nat → Value) → World → Prop} : ∀ (l : List Oper) (k j : Nat) (o : Oper), stepsI P md ops fb a I k l → l[j]? = some o → fb (k + j) = true →
  ∀ S vs w, S (k + j) = false → (∀ i, depsB md o i = true → S i = true) → I S vs w → wpList P #[o] (fun e c w' => e = .normal ∧ ∃ v, c = (stL ops 0 (depsB md o) vs a).put o.dst v ∧ I (fun i => S i || i == (k + j)) (fun i => if i = k + j then v else vs i) w') [o] (stL ops 0 (depsB md o) vs a) w
 | [], _, _, _, _, h, _ => by simp at h
 | o :: l, k, 0, o', hs, h, hf => by
  simp only [List.getElem?_cons_zero, Option.some.injEq] at h
  subst h
  unfold stepsI at hs
  rw [Nat.add_zero] at hf ⊢
  rw [hf] at hs
  exact hs.1
 | o :: l, k, j + 1, o', hs, h, hf => by
  have e : k + (j + 1) = k + 1 + j := by omega
  rw [e] at hf ⊢
  refine stepsI_at l (k + 1) j o' ?_ (by simpa using h) hf
  unfold stepsI at hs
  split at hs
  ·exact hs.2
  ·exact hs
theorem wpAny_growI {fb : Nat → Bool} {l : List Oper} {a : Act} {Q : Exit → Act → World → Prop} {I : (Nat → Bool) → (Nat → Value) → World → Prop} (hQ : ∀ c a w, ¬ Q (.panic c) a w) (hB : grow8B md fb (fun _ => false) a.tmps.size l = true)
  (hs : stepsI P md l fb a I 0 l)
  (hf : ∀ S vs w', (∀ i, i < l.length → S i = fb i) → I S vs w' → wpList P l.toArray Q (((List.range l.length).filter fun i => !fb i).filterMap fun i => l[i]?) (stL l 0 fb vs a) w') :
  ∀ (fuel : Nat) (listed : Array Bool) (w : World) (vs : Nat → Value), (List.range l.length).countP (fun i => !listed.getD i false) = fuel → listed.size = l.length → (∀ i, i < l.length → fb i = false → listed.getD i false = false) →
   (∀ i o, l[i]? = some o → listed.getD i false = true → ∀ e ∈ o.after, Region.binds md e = true → listed.getD e.on false = true) → I (fun i => listed.getD i false) vs w → wpAny P md l.toArray Q fuel listed (stL l 0 (fun i => listed.getD i false) vs a) w := by
 have hsel : ∀ (j : Nat) (o : Oper) cs b, l.toArray[j]? = some o → o.op ≠ .select cs b := by
  unfold grow8B at hB
  rw [Bool.and_eq_true] at hB
  exact Region.noSelect_spec hB.1
 -- all that come first are done
 have full : ∀ (fuel : Nat) (listed : Array Bool) (w : World) (vs : Nat → Value), (List.range l.length).countP (fun i => !listed.getD i false) = fuel → listed.size = l.length → (∀ i, i < l.length → fb i = false → listed.getD i false = false) →
   (∀ i o, l[i]? = some o → listed.getD i false = true → ∀ e ∈ o.after, Region.binds md e = true → listed.getD e.on false = true) → I (fun i => listed.getD i false) vs w → (∀ i, i < l.length → fb i = true → listed.getD i false = true) → wpAny P md l.toArray Q fuel listed (stL l 0 (fun i => listed.getD i false) vs a) w := by
  intro fuel listed w vs hc hsz ht hcl hC hfull
  have hl : ∀ i, i < l.length → listed.getD i false = fb i := fun i hi => by
   cases h : fb i with
   | true => exact hfull i hi h
   | false => exact ht i hi h
  have hfuel : ((List.range l.length).filter fun i => !fb i).length = fuel := by
   rw [← hc, ← List.countP_eq_length_filter]
   exact List.countP_congr fun i hi => by rw [hl i (List.mem_range.1 hi)]
  rw [← hfuel]
  have hsort : ((List.range l.length).filter fun i => !fb i).Pairwise (· < ·) := List.Pairwise.filter _ List.pairwise_lt_range
  refine wpAny_tail8 hB _ listed _ w hsort (fun r hr => ?_) hsz (fun i hi => ?_) hcl ?_
  ·rw [List.mem_filter, List.mem_range] at hr
   exact ⟨by simpa using hr.2, hr.1⟩
  ·rw [hl i hi]
   have : ((List.range l.length).filter fun i => !fb i).contains i = !fb i := by
    rw [List.contains_eq_mem]
    cases h : fb i <;> simp [List.mem_filter, h, hi]
   rw [this, Bool.not_not]
  ·have := hf _ vs w hl hC
   rw [stL_congr l 0 _ fb vs vs a (fun i _ hi => ⟨hl i (by omega), fun _ => rfl⟩)]
   exact this
 intro fuel
 induction fuel with
 | zero =>
  intro listed w vs hc hsz ht hcl hC
  have hall := cnt_zero hc
  exact full 0 listed w vs hc hsz ht hcl hC (fun i hi _ => by simpa using hall i hi)
 | succ fuel ih =>
  intro listed w vs hc hsz ht hcl hC
  by_cases hfull : ∀ i, i < l.length → fb i = true → listed.getD i false = true
  ·exact full (fuel + 1) listed w vs hc hsz ht hcl hC hfull
  ·obtain ⟨m, hmN, hmun, hmin⟩ : ∃ m, (m < l.length ∧ fb m = true) ∧ listed.getD m false = false ∧ ∀ i, i < m → fb i = true → listed.getD i false = true := by
    have : ∃ m, (m < l.length ∧ fb m = true) ∧ listed.getD m false = false := by
     rcases Classical.not_forall.1 hfull with ⟨m, hm⟩
     rw [Classical.not_imp, Classical.not_imp] at hm
     exact ⟨m, ⟨hm.1, hm.2.1⟩, by simpa using hm.2.2⟩
    obtain ⟨m, h1, h2⟩ := this
    clear hfull
    induction m using Nat.strongRecOn with
    | _ m ihm =>
     by_cases h : ∃ i, i < m ∧ fb i = true ∧ listed.getD i false = false
     ·obtain ⟨i, hi, hfi, hi2⟩ := h
      exact ihm i hi ⟨by omega, hfi⟩ hi2
     ·refine ⟨m, h1, h2, fun i hi hfi => ?_⟩
      cases hv : listed.getD i false with
      | true => rfl
      | false => exact absurd ⟨i, hi, hfi, hv⟩ h
   have hgt : ∀ i, i < l.length → ∀ d, listed.getD i d = listed.getD i false := fun i hi d => by
    rw [Array.getD_eq_getD_getElem?, Array.getD_eq_getD_getElem?, Array.getElem?_eq_getElem (by omega)]
    rfl
   obtain ⟨om, hom⟩ : ∃ o, l[m]? = some o := ⟨_, List.getElem?_eq_getElem hmN.1⟩
   have hmdeps : ∀ e ∈ om.after, Region.binds md e = true → listed.getD e.on false = true := fun e he hb => by
    have := (grow8B_spec hB hom).2.2.1 e he hb
    exact hmin e.on this.1 (this.2 hmN.2)
   have hready : m ∈ Region.ready md l.toArray listed := by
    rw [mem_ready]
    exact ⟨by rw [hgt m hmN.1]; exact hmun, om, by simpa using hom, hmdeps⟩
   have go : ∀ (j : Nat) (o : Oper) v w', fb j = true → l[j]? = some o → listed.getD j false = false → (∀ e ∈ o.after, Region.binds md e = true → listed.getD e.on false = true) → I (fun i => listed.getD i false || i == j) (fun i => if i = j then v else vs i) w' → wpAny P md l.toArray Q fuel (listed.setIfInBounds j true) ((stL l 0 (fun i => listed.getD i false) vs a).put o.dst v) w' := by
    intro j o v w' hjN ho h1 h2 hI
    obtain ⟨_, _, _, hall⟩ := grow8B_spec hB ho
    have hlt := (List.getElem?_eq_some_iff.1 ho).1
    have hadd := stL_add l 0 j (fun i => listed.getD i false) vs a o v ho (by rw [Nat.zero_add]; exact h1) (fun i o' hi hne d hd => (hall i o' hi).1 (fun e => hne e.symm) d hd)
    simp only [Nat.zero_add] at hadd
    have hget : ∀ i, (listed.setIfInBounds j true).getD i false = (listed.getD i false || i == j) := fun i => by
     by_cases e : j = i
     ·subst e
      rw [Array.getD_eq_getD_getElem?, Array.getElem?_setIfInBounds_self_of_lt (by omega)]
      simp
     ·rw [getD_set_ne false e]
      have : (i == j) = false := by simp; exact fun h => e h.symm
      rw [this, Bool.or_false]
    rw [← hadd, ← stL_congr l 0 (fun i => (listed.setIfInBounds j true).getD i false) _ (fun i => if i = j then v else vs i) _ a (fun i _ _ => ⟨hget i, fun _ => rfl⟩)]
    refine ih (listed.setIfInBounds j true) w' (fun i => if i = j then v else vs i) ?_ (by simpa using hsz) (fun i hi hNi => ?_) (fun i o' ho' hi e he hb => ?_) (by rw [show (fun i => (listed.setIfInBounds j true).getD i false) = (fun i => listed.getD i false || i == j) from funext hget]; exact hI)
    ·have := cnt_set l.length (fun i => !listed.getD i false) (fun i => !(listed.setIfInBounds j true).getD i false) j hlt (by rw [h1]; rfl) (by rw [hget]; simp) (fun i hi => by rw [hget]; simp [hi])
     omega
    ·rw [hget, ht i hi hNi]
     have : (i == j) = false := by
      simp
      intro e
      subst e
      rw [hjN] at hNi; cases hNi
     rw [this]; rfl
    ·rw [hget] at hi ⊢
     rcases Bool.or_eq_true_iff.1 hi with hi | hi
     ·rw [hcl i o' ho' hi e he hb]; rfl
     ·have : i = j := by simpa using hi
      subst this
      rw [ho] at ho'
      injection ho' with ho'
      subst ho'
      rw [h2 e he hb]; rfl
   have dl : ∀ o, (∀ e ∈ o.after, Region.binds md e = true → listed.getD e.on false = true) → ∀ i, depsB md o i = true → listed.getD i false = true := fun o h2 i hi => by
    obtain ⟨e, he, hb, rfl⟩ := depsB_mem hi
    exact h2 e he hb
   have alike : ∀ (j : Nat) (o : Oper), l[j]? = some o → (∀ e ∈ o.after, Region.binds md e = true → listed.getD e.on false = true) → Alike2 o (stL l 0 (fun i => listed.getD i false) vs a) (stL l 0 (depsB md o) vs a) := by
    intro j o ho h2
    obtain ⟨_, _, hdep, hall⟩ := grow8B_spec hB ho
    refine stL_alike l 0 _ _ vs a a (fun i o' hi hne d hd => ?_) ⟨rfl, fun _ _ => rfl⟩
    rw [Nat.zero_add] at hne
    refine (hall i o' hi).2.1 (.inl ?_) ?_ d hd
    ·cases hfi : fb i with
     | true => rfl
     | false =>
      have hil := (List.getElem?_eq_some_iff.1 hi).1
      have h0 := ht i hil hfi
      cases hdp : depsB md o i with
      | true => rw [dl o h2 i hdp] at h0; cases h0
      | false => rw [h0, hdp] at hne; exact absurd rfl hne
    cases hdp : depsB md o i with
    | false => rfl
    | true => rw [dl o h2 i hdp, hdp] at hne; exact absurd rfl hne
   obtain ⟨o0, ho0⟩ : ∃ o, l[m]? = some o := ⟨_, List.getElem?_eq_getElem hmN.1⟩
   refine ⟨fun h0 => absurd hready (by rw [h0]; simp), fun j hj => ?_⟩
   obtain ⟨h1, o, ho', h2⟩ := mem_ready.1 hj
   have ho : l[j]? = some o := by simpa using ho'
   have hlt := (List.getElem?_eq_some_iff.1 ho).1
   rw [hgt j hlt] at h1
   obtain ⟨hg, hdst, hdep, hall⟩ := grow8B_spec hB ho
   have hjN : fb j = true := by
    cases hfj : fb j with
    | true => rfl
    | false =>
     rcases ((hall m o0 ho0).2.2 hfj).1 hmN.2 with h3 | h3
     ·cases h3
     ·have := anc_listed hcl _ _ _ _ ho h2 h3
      rw [hmun] at this; cases this
   have hstep := stepsI_at l 0 j o hs ho (by rw [Nat.zero_add]; exact hjN) (fun i => listed.getD i false) vs w (by rw [Nat.zero_add]; exact h1) (dl o h2) hC
   simp only [Nat.zero_add] at hstep
   have hw : Region.wanted o (yielded l.toArray (stL l 0 (fun i => listed.getD i false) vs a).tmps) = true := by simp [Region.wanted, hg]
   unfold wpOp
   simp only [ho', hw, if_true]
   left
   exact wp_move_frame hg (fun cs b => hsel j o cs b ho') (alike j o ho h2) (fun d hd => by rw [stL_size]; exact hdst d hd) hstep (fun v w' h => go j o v w' hjN ho h1 h2 h)
end
theorem wp_region_growI {P : Program} {id : Nat} {Q : Exit → Act → World → Prop} {a : Act} {w : World} {l : List Oper} (fb : Nat → Bool) (I : (Nat → Bool) → (Nat → Value) → World → Prop) (hm : P.follows .mixedOrders = true) (hB : grow8B .any fb (fun _ => false) a.tmps.size l = true)
  (hI : I (fun _ => false) (fun _ => undef) w.drew) (hs : stepsI P .any l fb a I 0 l)
  (hf : ∀ S vs w', (∀ i, i < l.length → S i = fb i) → I S vs w' → wpList P l.toArray (fun e b w => e = .normal ∧ Q .normal b w) (((List.range l.length).filter fun i => !fb i).filterMap fun i => l[i]?) (stL l 0 fb vs a) w') : (Code.region id l.toArray true).wp P Q a w := by
 refine Code.wp_mono (Q := fun e b w => e = .normal ∧ Q .normal b w) (fun e b w h => by obtain ⟨rfl, h⟩ := h; exact h) ?_
 refine wp_region_any hm ?_
 have hn : ∀ i, (Array.replicate l.toArray.size false).getD i false = false := fun i => by
  simp [Array.getD_eq_getD_getElem?, Array.getElem?_replicate]
  split <;> rfl
 have h0 : stL l 0 (fun i => (Array.replicate l.toArray.size false).getD i false) (fun _ => undef) a = a := by
  rw [stL_congr l 0 _ (fun _ => false) (fun _ => undef) (fun _ => undef) a (fun i _ hi => ⟨hn i, fun _ => rfl⟩)]
  exact stL_none _ _ _ _
 have := wpAny_growI (Q := fun e b w => e = .normal ∧ Q .normal b w) (I := I) (fun c a w h => absurd h.1 (by simp)) hB hs hf l.toArray.size (Array.replicate l.toArray.size false) w.drew (fun _ => undef) (by
  rw [List.countP_eq_length.2 (fun i hi => by rw [hn]; rfl)]
  simp) (by simp) (fun i hi _ => hn i) (fun i o _ h => by rw [hn] at h; cases h) (by rw [show (fun i => (Array.replicate l.toArray.size false).getD i false) = (fun _ => false) from funext hn]; exact hI)
 rw [h0] at this
 exact this
end Go.Proofs.YtdiflpbioohddaaDoor
end
section
namespace Go.Proofs.YtdiflpbioohddaaDoor
open Go.RowKit
def wordL (d : Int × Int × Int × Int) : List Value := [.int .i64 d.1, .int .i64 d.2.1, .int .i64 d.2.2.1, .int .i64 d.2.2.2]
def zeros4 : List Value := [.int .i64 0, .int .i64 0, .int .i64 0, .int .i64 0]
theorem size_wordL : (Tryd.prog.info? 23).map (·.size) = some 4 := by kernel_rfl
theorem st_wordL {ops : Array Oper} {rest : List Oper} {o : Oper} {a : Act} {Q : Exit → Act → World → Prop} {w : World} {M : List Value} {d : Int × Int × Int × Int} {g : Nat} (hb : Box w g M) (hM : M.length = 4) (hgd : o.guard = none) (x y : Operand) (ho : o.op = .store 23 x y) (hx : a.eval x = .pointer (some ⟨g, 0, none⟩)) (hy : a.eval y = .agg (wordL d).toArray)
  (h : ∀ W1, Box W1 g (wordL d) → w.grownBy W1 (some g) → wpList Tryd.prog ops Q rest (a.put o.dst undef) W1) : wpList Tryd.prog ops Q (o :: rest) a w :=
 wp_st hgd _ x y ho g 0 (wordL d) hx hy size_wordL rfl hb (by rw [hM]; exact Nat.le_refl _) (by rw [List.take_zero, List.nil_append, List.drop_eq_nil_of_le (by rw [hM]; exact Nat.le_refl _), List.append_nil]) h
def fpF (b P : Nat) (dn cn : Int) (d c : Int × Int × Int × Int) : Nat → Value → World → Prop
 | 0, v, _ => v = .pointer (some ⟨P, 1, none⟩)
 | 1, v, _ => v = .int .i64 dn
 | 2, v, _ => v = .agg (wordL d).toArray
 | 3, v, _ => v = .pointer (some ⟨P, 2, none⟩)
 | 4, v, _ => v = .int .i64 cn
 | 5, v, _ => v = .agg (wordL c).toArray
 | 6, v, w | 7, v, w => ∃ q, v = .pointer (some ⟨q, 0, none⟩) ∧ (∃ M : List Value, Box w q M ∧ M.length = 4) ∧ b ≤ q
 | _, _, _ => True
theorem fpF_keep {b P : Nat} {dn cn : Int} {d c : Int × Int × Int × Int} {w w' : World} (h : Below w.heap.size w w') : ∀ i v, fpF b P dn cn d c i v w → fpF b P dn cn d c i v w'
 | 0, _, e | 1, _, e | 2, _, e | 3, _, e | 4, _, e | 5, _, e => e
 | 6, _, ⟨q, e, ⟨M, hM, h5⟩, g⟩ | 7, _, ⟨q, e, ⟨M, hM, h5⟩, g⟩ => ⟨q, e, ⟨M, hM.keep h, h5⟩, g⟩
 | n + 8, _, e => e
def fpI (W : World) (P : Nat) (dn cn : Int) (d c : Int × Int × Int × Int) (S : Nat → Bool) (vs : Nat → Value) (w : World) : Prop :=
 Below W.heap.size W w ∧ (∀ i, S i = true → (i = 6 → S 8 = false) → fpF W.heap.size P dn cn d c i (vs i) w) ∧ (S 6 = true → S 7 = true → vs 6 ≠ vs 7) ∧ (S 8 = true → S 6 = true ∧ ∃ q, vs 6 = .pointer (some ⟨q, 0, none⟩) ∧ Box w q (wordL d) ∧ W.heap.size ≤ q)
theorem fpI_step {W : World} {P : Nat} {dn cn : Int} {d c : Int × Int × Int × Int} {S : Nat → Bool} {vs : Nat → Value} {w w' : World} (j : Nat) (v : Value) (h : fpI W P dn cn d c S vs w) (hj : j < 6) (hb : Below w.heap.size w w') (hF : fpF W.heap.size P dn cn d c j v w') :
  fpI W P dn cn d c (fun i => S i || i == j) (fun i => if i = j then v else vs i) w' := by
 obtain ⟨h1, h2, h3, h4⟩ := h
 have n6 : (6 == j) = false := by simp; omega
 have n7 : (7 == j) = false := by simp; omega
 have n8 : (8 == j) = false := by simp; omega
 refine ⟨below_then h1 hb, fun i hi h68 => ?_, ?_, ?_⟩
 ·by_cases e : i = j
  ·subst e; simpa using hF
  ·simp only [beq_eq_false_iff_ne.2 e, Bool.or_false] at hi
   simp only [if_neg e]
   simp only [n8, Bool.or_false] at h68
   exact fpF_keep hb i _ (h2 i hi h68)
 ·simp only [n6, n7, Bool.or_false, if_neg (show ¬ 6 = j by omega), if_neg (show ¬ 7 = j by omega)]
  exact h3
 ·simp only [n6, n8, Bool.or_false, if_neg (show ¬ 6 = j by omega)]
  intro h8
  obtain ⟨h6, q, e2, b1, g1⟩ := h4 h8
  exact ⟨h6, q, e2, b1.keep hb, g1⟩
theorem fpI_box {W : World} {P : Nat} {dn cn : Int} {d c : Int × Int × Int × Int} {S : Nat → Bool} {vs : Nat → Value} {w : World} (j : Nat) (h : fpI W P dn cn d c S vs w) (hj : j = 6 ∨ j = 7) (hS : S j = false) :
  fpI W P dn cn d c (fun i => S i || i == j) (fun i => if i = j then .pointer (some ⟨w.heap.size, 0, none⟩) else vs i) (w.alloc (.cells zeros4.toArray 23)) := by
 obtain ⟨h1, h2, h3, h4⟩ := h
 have hb : Below w.heap.size w (w.alloc (.cells zeros4.toArray 23)) := (Below.refl _ _).alloc (Nat.le_refl _) _
 have hx : Box (w.alloc (.cells zeros4.toArray 23)) w.heap.size zeros4 := Box.new rfl
 have hf : ∃ q, (.pointer (some ⟨w.heap.size, 0, none⟩) : Value) = .pointer (some ⟨q, 0, none⟩) ∧ (∃ M : List Value, Box (w.alloc (.cells zeros4.toArray 23)) q M ∧ M.length = 4) ∧ W.heap.size ≤ q := ⟨_, rfl, ⟨_, hx, rfl⟩, h1.size⟩
 have far7 : S 7 = true → vs 7 ≠ .pointer (some ⟨w.heap.size, 0, none⟩) := fun hs e => by
  obtain ⟨q, e1, ⟨M, hM, -⟩, -⟩ := h2 7 hs (fun h => by cases h)
  rw [e] at e1
  injection e1 with e1; injection e1 with e1; injection e1 with e1
  have := hM.1
  omega
 have far6 : S 6 = true → vs 6 ≠ .pointer (some ⟨w.heap.size, 0, none⟩) := fun hs e => by
  cases h8 : S 8 with
  | false =>
   obtain ⟨q, e1, ⟨M, hM, -⟩, -⟩ := h2 6 hs (fun _ => h8)
   rw [e] at e1
   injection e1 with e1; injection e1 with e1; injection e1 with e1
   have := hM.1
   omega
  | true =>
   obtain ⟨-, q, e1, hM, -⟩ := h4 h8
   rw [e] at e1
   injection e1 with e1; injection e1 with e1; injection e1 with e1
   have := hM.1
   omega
 have n8 : (8 == j) = false := by rcases hj with rfl | rfl <;> rfl
 refine ⟨below_then h1 hb, fun i hi h68 => ?_, ?_, ?_⟩
 ·by_cases e : i = j
  ·subst e
   simp only [if_true]
   rcases hj with rfl | rfl
   ·exact hf
   ·exact hf
  ·simp only [beq_eq_false_iff_ne.2 e, Bool.or_false] at hi
   simp only [if_neg e]
   simp only [n8, Bool.or_false] at h68
   exact fpF_keep hb i _ (h2 i hi h68)
 ·rcases hj with rfl | rfl
  ·intro _ h7
   have h7' : S 7 = true := by simpa using h7
   exact fun e => far7 h7' e.symm
  ·intro h6 _
   have h6' : S 6 = true := by simpa using h6
   exact far6 h6'
 ·simp only [n8, Bool.or_false]
  intro h8'
  obtain ⟨h6, q, e2, b1, g1⟩ := h4 h8'
  have hj6 : ¬ 6 = j := fun e => by rw [← e, h6] at hS; cases hS
  simp only [if_neg hj6, h6, Bool.true_or]
  exact ⟨trivial, q, e2, b1.keep hb, g1⟩
theorem fpI_store {W : World} {P : Nat} {dn cn : Int} {d c : Int × Int × Int × Int} {S : Nat → Bool} {vs : Nat → Value} {w w' : World} {q : Nat} (h : fpI W P dn cn d c S vs w) (h6 : S 6 = true) (e6 : vs 6 = .pointer (some ⟨q, 0, none⟩)) (hq : W.heap.size ≤ q) (hb : Box w' q (wordL d)) (hg : w.grownBy w' (some q)) (v : Value) :
  fpI W P dn cn d c (fun i => S i || i == 8) (fun i => if i = 8 then v else vs i) w' := by
 obtain ⟨h1, h2, h3, h4⟩ := h
 have hbw := grown_to h1 hg hq
 refine ⟨hbw, fun i hi h68 => ?_, fun h6 h7 => h3 (by simpa using h6) (by simpa using h7), fun _ => ⟨by simp [h6], q, e6, hb, hq⟩⟩
 by_cases e : i = 8
 ·subst e; trivial
 ·simp only [beq_eq_false_iff_ne.2 e, Bool.or_false] at hi
  simp only [if_neg e]
  have n6 : i ≠ 6 := fun e => by have := h68 e; simp at this
  have h := h2 i hi (fun e => absurd e n6)
  match i, h, n6, hi with
  | 0, h, _, _ | 1, h, _, _ | 2, h, _, _ | 3, h, _, _ | 4, h, _, _ | 5, h, _, _ => exact h
  | 6, _, n, _ => exact absurd rfl n
  | 7, ⟨p, e7, ⟨M, hM, hl⟩, hp⟩, _, h7 =>
   have hne : p ≠ q := fun e => h3 h6 h7 (by rw [e6, e7, e])
   exact ⟨p, e7, ⟨M, hM.grown hg (fun e => hne (by injection e)), hl⟩, hp⟩
  | _ + 8, h, _, _ => exact h
theorem fpI_zero (W : World) (P : Nat) (dn cn : Int) (d c : Int × Int × Int × Int) : fpI W P dn cn d c (fun _ => false) (fun _ => undef) W.drew := ⟨Below.drew (Below.refl _ _), fun _ h => (Bool.false_ne_true h).elim, fun h => (Bool.false_ne_true h).elim, fun h => (Bool.false_ne_true h).elim⟩
end Go.Proofs.YtdiflpbioohddaaDoor
end
section
namespace Go.Proofs.YtdiflpbioohddaaDoor
open Go.RowKit
theorem below_mem {bnd : Int} {l : List Int} {n : Nat} (hb : 0 ≤ bnd) {x : Int} (hx : x ∈ belowF bnd l n) : -bnd ≤ x ∧ x ≤ bnd := by
 unfold belowF at hx
 obtain ⟨i, -, rfl⟩ := List.mem_map.1 hx
 have := within_in (m := 2 * bnd + 1) (by omega) (wrap64 (atF l i + bnd))
 omega
theorem below_fits {c0 c1 c2 c3 : Int} (hc : okW c0 c1 c2 c3 = true) {x : Int} (hx : -(2 ^ (c0 - 1).toNat - 1) ≤ x ∧ x ≤ 2 ^ (c0 - 1).toNat - 1) : fitsW c0 c1 c2 c3 x = true ∧ fitsW c0 c1 c2 c3 (-x) = true := by
 have h1 : lowW c0 c1 c2 c3 = -2 ^ (c0 - 1).toNat := if_pos hc
 have h2 : highW c0 c1 c2 c3 = 2 ^ (c0 - 1).toNat - 1 := if_pos hc
 unfold fitsW
 rw [hc, h1, h2, Bool.true_and, Bool.true_and, inB_iff, inB_iff]
 omega
theorem frac_le {c0 c1 c2 c3 : Int} (hc : okW c0 c1 c2 c3 = true) : (2 : Int) ^ c1.toNat ≤ 2 ^ (c0 - 1).toNat := by
 obtain ⟨o1, o2, o3, o4, -⟩ := okW_iff.1 hc
 exact pow_le (by omega)
structure PlantA where
 (kd dn cn : Int)
 (BA AA : Option Addr)
 (bc ac : Nat)
 (bl al : List Int)
def PlantA.lst (u : PlantA) : List Value := [.int .i64 u.kd, .int .i64 u.dn, .int .i64 u.cn, .slice u.BA u.bl.length u.bc, .slice u.AA u.al.length u.ac]
def PlantOk (w : World) (u : PlantA) : Prop := (Ints w u.BA u.bl ∧ Ints w u.AA u.al) ∧ u.bl.length ≤ 9223372036854775807 ∧ u.al.length ≤ 9223372036854775807
theorem PlantOk.grow {w w' : World} {u : PlantA} (h : PlantOk w u) (hb : Below w.heap.size w w') : PlantOk w' u := ⟨⟨h.1.1.grow hb, h.1.2.grow hb⟩, h.2⟩
def RetPP (w : World) (e : Ending) (w' : World) : Prop := ∃ (n : NetD) (NA : Option Addr) (nc : Nat) (XA : Option Addr) (xc : Nat), e = .returned (.tuple #[.agg (n.lst NA nc XA xc).toArray, .bool true]) ∧ n.ok = true ∧ validB n.prg = true ∧ NetAt w' n NA XA ∧ Below w.heap.size w w'
def RetPN (w : World) (e : Ending) (w' : World) : Prop := ∃ (n : NetD) (NA : Option Addr) (nc : Nat) (XA : Option Addr) (xc : Nat), e = .returned (.tuple #[.agg (n.lst NA nc XA xc).toArray, .int .i64 0]) ∧ n.ok = true ∧ validB n.prg = true ∧ NetF w.heap.size w' n NA XA ∧ Below w.heap.size w w'
theorem RetND.pn {w : World} {n : NetD} {e : Ending} {w' : World} (h : RetND w n 0 e w') (hok : n.ok = true) (hv : validB n.prg = true) : RetPN w e w' := by
 obtain ⟨NA, nc, XA, xc, h1, h2, h3⟩ := h
 exact ⟨n, NA, nc, XA, xc, h1, hok, hv, h2, h3⟩
theorem wd_Unit (b f r o : Int) (w : World) (hf : 0 ≤ f ∧ f ≤ 23) : Calls Tryd.prog 48 #[wordV b f r o] w fun e w' => e = .returned (.int .i64 (2 ^ f.toNat)) ∧ Below w.heap.size w w' := by
 obtain ⟨f1, f2⟩ := hf
 obtain ⟨Q, hQ⟩ : ∃ Q, (2 : Int) ^ f.toNat = Q := ⟨_, rfl⟩
 have q0 : 0 < Q := by rw [← hQ]; exact pow_pos' _
 have q1 : IntKind.i64.wrap ((2 : Int) ^ f.toNat) = Q := by rw [← hQ]; exact IntWalk.i64_in _ (by have := pow_pos' f.toNat; have := pow_62 (n := f.toNat) (by omega); omega)
 have q3 : Q ≤ 4611686018427387904 := by rw [← hQ]; exact pow_62 (by omega)
 have q2 : wrap64 Q = Q := by unfold wrap64; omega
 have HQ := Lib.hid hQ
 have o5 : f.toNat ≤ 61 := by omega
 go_enter Tryd.func48, Tryd.ntmps48
 go_wp2_with fail
 go_ret
 exact ⟨by rw [HQ.out]; rfl, Below.alloc (Below.refl _ _) (Nat.le_refl _) _⟩
end Go.Proofs.YtdiflpbioohddaaDoor
end
