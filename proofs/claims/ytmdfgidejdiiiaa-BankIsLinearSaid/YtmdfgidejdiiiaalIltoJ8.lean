/- Several texts in one: Il J8. -/
import Derived.Test.YtmdfgidejdiiiaalIk
import Derived.Test.YtmdfgidejdiiiaalJ2toVp
set_option linter.unusedVariables false
set_option linter.unusedSimpArgs false
section
namespace Go.Proofs.Ytmdfgidejdiiiaa
open Go.RowKit
theorem r1_DivMod (A B : Option Addr) (n m c d : Nat) (X Y : List Int) (w : World) (hX : DigA w A X) (hY : DigA w B Y) (hn : X.length = n) (hm : Y.length = m) (hc : n ≤ c) (hd : m ≤ d) (h9 : n ≤ 10000000) (h8 : m ≤ 10000000) (h0 : nv Y ≠ 0) :
    Calls Try.prog 127 #[.slice A n c, .slice B m d] w (RetQRE w (nv X / nv Y) (nv X % nv Y) n m) := by
  rcases Int.lt_or_le (nv Y) 4294967296 with h1 | h1
  · exact r1_DivMod_one A B n m c d X Y w hX hY hn hm hc hd h9 h8 h0 h1
  · rcases Int.lt_or_le (nv X) (nv Y) with h2 | h2
    · exact r1_DivMod_lt A B n m c d X Y w hX hY hn hm hc hd h9 h8 h0 h1 h2
    · exact r1_DivMod_big A B n m c d X Y w hX hY hn hm hc hd h9 h8 h0 h1 h2
def GcdJ (base : Nat) (a b : Int) (K : Nat) (w0 wr : World) (vx vy : Value) : Prop := ∃ X Y, (OwG base wr vx X ∧ Nrm X ∧ X.length ≤ K) ∧ (OwG base wr vy Y ∧ Nrm Y ∧ Y.length ≤ K) ∧ (∀ k : Int, k ∣ nv X → k ∣ nv Y → k ∣ a ∧ k ∣ b) ∧ Below base w0 wr
set_option maxRecDepth 100000 in
set_option maxHeartbeats 1000000 in
theorem r1_Gcd (A B : Option Addr) (n m c d : Nat) (a b : List Int) (w : World) (ha : DigA w A a) (hb : DigA w B b) (hn : a.length = n) (hm : b.length = m) (hc : n ≤ c) (hd : m ≤ d) (h9 : n ≤ 10000000) (h8 : m ≤ 10000000) :
    Calls Try.prog 126 #[.slice A n c, .slice B m d] w (RetG w (nv a) (nv b) (max n m)) := by
  have CA : Hid (Calls Try.prog 100 #[.slice A n c] w (RetN w (nv a) n)) := Lib.hid (r1_Trim A n c a w ha hn hc (by omega))
  have CB : Hid (∀ w1, Below w.heap.size w w1 → Calls Try.prog 100 #[.slice B m d] w1 (RetN w1 (nv b) m)) := Lib.hid fun w1 h => r1_Trim B m d b w1 (hb.grow h) hm hd (by omega)
  obtain ⟨K, hK⟩ : ∃ K, max n m = K := ⟨_, rfl⟩
  have hK9 : K ≤ 10000000 := by omega
  have HKN : Hid (n ≤ K ∧ m ≤ K) := Lib.hid (by omega)
  rw [hK]
  obtain ⟨va, hva⟩ : ∃ t, nv a = t := ⟨_, rfl⟩
  obtain ⟨vb, hvb⟩ : ∃ t, nv b = t := ⟨_, rfl⟩
  rw [hva] at CA ⊢
  rw [hvb] at CB ⊢
  clear ha hb hn hm hK hva hvb hc hd
  go_enter Try.func126, Try.ntmps126
  go_upto_region 2 with (go_at_call 100; first
    | ((with_reducible refine CA.out.mono ?_); rintro e1 w1 ⟨v1, l1, rfl, o1, n1, m1, k1, hb1⟩; have HB1 := Lib.hid hb1; have H1 := Lib.hid (And.intro o1 (And.intro n1 (And.intro m1 k1))); clear hb1 o1 n1 m1 k1)
    | ((with_reducible refine (CB.out _ HB1.out).mono ?_); rintro e2 w2 ⟨v2, l2, rfl, o2, n2, m2, k2, hb2⟩; have HB2 := Lib.hid hb2; have H2 := Lib.hid (And.intro (o2.base (base' := w.heap.size) HB1.out.size) (And.intro n2 (And.intro m2 k2))); clear hb2 o2 n2 m2 k2))
  have HI : Hid (GcdJ w.heap.size va vb K w w2 v1 v2) := Lib.hid ⟨l1, l2, ⟨H1.out.1.grow HB2.out, H1.out.2.2.1, Nat.le_trans H1.out.2.2.2 HKN.out.1⟩, ⟨H2.out.1, H2.out.2.2.1, Nat.le_trans H2.out.2.2.2 HKN.out.2⟩, fun k h1 h2 => ⟨by rw [← H1.out.2.1]; exact h1, by rw [← H2.out.2.1]; exact h2⟩, below_then HB1.out HB2.out⟩
  clear H1 H2 HB1 HB2 CA CB
  go_wp2_with fail
  go_loopw [0, 1] (fun x y wr => Hid (GcdJ w.heap.size va vb K w wr x y)) (fun _ y wr => numAt wr y)
  case atStart => exact HI
  case round =>
    rename World => wq
    obtain ⟨X, Y, ⟨oX, nX, kX⟩, ⟨oY, nY, kY⟩, hdv, hbw⟩ := hrel.out
    obtain ⟨XA, xc, rfl, hxc, hxd⟩ := oX.form
    obtain ⟨YA, yc, rfl, hyc, hyd⟩ := oY.form
    obtain ⟨q, hq⟩ : ∃ q, Y.length = q := ⟨_, rfl⟩
    have HM : Hid (numAt wq (.slice YA q yc) = (nv Y).toNat) := Lib.hid (numAt_eq hyd hq)
    by_cases hy0 : Y = []
    · subst hy0
      have HE : Hid (nv X ∣ va ∧ nv X ∣ vb) := Lib.hid (hdv (nv X) (Int.dvd_refl _) ⟨0, by simp [nv]⟩)
      have HX := Lib.hid (And.intro oX (And.intro nX (And.intro kX hbw)))
      obtain rfl : q = 0 := by rw [← hq]; rfl
      clear oX nX kX oY nY kY hdv hbw hxc hxd hyc hyd hq hrel
      go_wp2_with fail
      go_ret
      exact ⟨_, X, rfl, HX.out.1, HE.out, HX.out.2.1, HX.out.2.2.1, HX.out.2.2.2⟩
    · have hq0 : 0 < q := by
        rcases Nat.eq_zero_or_pos q with h | h
        · exact absurd (List.length_eq_zero_iff.1 (hq.trans h)) hy0
        · exact h
      have hq1 : (0 : Int) < (q : Int) := by omega
      have hnz : nv Y ≠ 0 := fun e => hy0 ((nrm_zero oY.dig nY).1 e)
      have hyp : 0 < nv Y := by have := nv_low oY.dig; omega
      have CD : Hid (Calls Try.prog 127 #[.slice XA X.length xc, .slice YA q yc] wq (RetQRE wq (nv X / nv Y) (nv X % nv Y) X.length q)) := Lib.hid (r1_DivMod XA YA X.length q xc yc X Y wq hxd hyd rfl hq hxc (by omega) (by omega) (by omega) hnz)
      have HY := Lib.hid (And.intro oY (And.intro nY (And.intro kY (And.intro hyp (And.intro hq (And.intro hdv hbw))))))
      rw [hq]
      clear oX nX kX oY nY kY hdv hbw hxc hxd hyc hyd hq hrel hnz hyp hy0
      go_wp2_with (go_at_call 127; (with_reducible refine CD.out.mono ?_); rintro e3 w3 ⟨v3, l3, v4, l4, rfl, h3, h4, hb3⟩; have H4 := Lib.hid h4; have HB3 := Lib.hid hb3; clear h3 h4 hb3)
      go_roundw
      case rel =>
        have hy := HY.out
        have h4 := H4.out
        refine Lib.hid ⟨Y, l4, ⟨hy.1.grow HB3.out |> (hy.2.2.2.2.1 ▸ ·), hy.2.1, hy.2.2.1⟩, ⟨h4.1.base hy.2.2.2.2.2.2.size, h4.2.2.1, by have := h4.2.2.2; have := hy.2.2.2.2.1; omega⟩, fun k h1 h2 => hy.2.2.2.2.2.1 k (dvd_mod h1 (by rw [← h4.2.1]; exact h2)) h1, below_then hy.2.2.2.2.2.2 HB3.out⟩
      case measure =>
        have hy := HY.out
        have h4 := H4.out
        rw [HM.out]
        exact gcd_meas h4.1 (by rw [h4.2.1]; exact Int.emod_lt_of_pos _ hy.2.2.2.1) rfl
end Go.Proofs.Ytmdfgidejdiiiaa
end
section
namespace Go.Proofs.Ytmdfgidejdiiiaa
open Go.RowKit
section
variable {P : Program} {md : Region.Mode}
def grow8B (md : Region.Mode) (fb ls : Nat → Bool) (size : Nat) (l : List Oper) : Bool :=
  Region.noSelect l.toArray && (List.range l.length).all fun i => match l[i]? with
    | none => true
    | some o => o.guard.isNone && ((match o.dst with | some d => decide (d < size) | none => true) && ((o.after.toList.all fun e => !Region.binds md e || (decide (e.on < i) && (!fb i || fb e.on))) && ((List.range l.length).all fun j => match l[j]? with
        | none => true
        | some o' => (i == j || dstB o o') && (((!fb j && !ls i) || depsB md o j || (match o'.dst with | some d => !looksB o d | none => true)) && (fb i || (if fb j then ls j || ancB md l l.length i j else decide (i ≤ j) || ancB md l l.length i j))))))
theorem grow8B_spec {fb ls : Nat → Bool} {size : Nat} {l : List Oper} (h : grow8B md fb ls size l = true) {i : Nat} {o : Oper} (ho : l[i]? = some o) :
    o.guard = none ∧ (∀ d, o.dst = some d → d < size) ∧ (∀ e ∈ o.after, Region.binds md e = true → e.on < i ∧ (fb i = true → fb e.on = true)) ∧ ∀ j o', l[j]? = some o' → (i ≠ j → ∀ d, o.dst = some d → o'.dst ≠ some d) ∧ (fb j = true ∨ ls i = true → depsB md o j = false → ∀ d, o'.dst = some d → .tmp d ∉ o.op.operands) ∧
      (fb i = false → (fb j = true → ls j = true ∨ ancB md l l.length i j = true) ∧ (fb j = false → j < i → ancB md l l.length i j = true)) := by
  unfold grow8B at h
  rw [Bool.and_eq_true, List.all_eq_true] at h
  have hi := (List.getElem?_eq_some_iff.1 ho).1
  have h := h.2 i (List.mem_range.2 hi)
  simp only [ho, Bool.and_eq_true, List.all_eq_true] at h
  obtain ⟨h1, h2, h3, h4⟩ := h
  refine ⟨by simpa using h1, fun d hd => ?_, fun e he hb => ?_, fun j o' hj => ?_⟩
  · rw [hd] at h2; simpa using h2
  · have := h3 e (by simpa using he)
    rw [hb] at this
    simp only [Bool.not_true, Bool.false_or, Bool.and_eq_true, decide_eq_true_eq, Bool.or_eq_true, Bool.not_eq_true'] at this
    refine ⟨this.1, fun hf => ?_⟩
    rcases this.2 with h | h
    · rw [hf] at h; cases h
    · exact h
  · have h5 := h4 j (List.mem_range.2 (List.getElem?_eq_some_iff.1 hj).1)
    simp only [hj, Bool.and_eq_true] at h5
    obtain ⟨h6, h7, h8⟩ := h5
    refine ⟨fun hne d hd hd' => ?_, fun hfj hdep d hd hm => ?_, fun hN => ⟨fun hfj => ?_, fun hfj hlt => ?_⟩⟩
    · rcases Bool.or_eq_true_iff.1 h6 with h6 | h6
      · exact hne (by simpa using h6)
      · unfold dstB at h6
        rw [hd, hd'] at h6
        simp at h6
    · have hfl : (!fb j && !ls i) = false := by rcases hfj with h | h <;> simp [h]
      rw [hfl, hdep, hd] at h7
      simp only [Bool.false_or, Bool.not_eq_true'] at h7
      unfold looksB at h7
      rw [List.any_eq_false] at h7
      exact absurd (h7 _ (by simpa using hm)) (by simp)
    · rw [hN, hfj] at h8
      simpa using h8
    · rw [hN, hfj] at h8
      simp only [Bool.false_or, Bool.false_eq_true, if_false, Bool.or_eq_true, decide_eq_true_eq] at h8
      rcases h8 with h8 | h8
      · omega
      · exact h8
def steps8 (P : Program) (md : Region.Mode) (ops : List Oper) (fb : Nat → Bool) (a : Act) (C : World → Prop) (G : World → World → Prop) (F : Nat → Value → World → Prop) : Nat → List Oper → Prop
  | _, [] => True
  | k, o :: l => match fb k with
    | true => (∀ vs w, C w → (∀ i, depsB md o i = true → F i (vs i) w) → wpList P #[o] (fun e c w' => e = .normal ∧ ∃ v, c = (stL ops 0 (depsB md o) vs a).put o.dst v ∧ (F k v w' ∧ G w w')) [o] (stL ops 0 (depsB md o) vs a) w) ∧ steps8 P md ops fb a C G F (k + 1) l
    | false => steps8 P md ops fb a C G F (k + 1) l
theorem steps8_at {ops : List Oper} {fb : Nat → Bool} {a : Act} {C : World → Prop} {G : World → World → Prop} {F : Nat → Value → World → Prop} : ∀ (l : List Oper) (k j : Nat) (o : Oper), steps8 P md ops fb a C G F k l → l[j]? = some o → fb (k + j) = true →
    ∀ vs w, C w → (∀ i, depsB md o i = true → F i (vs i) w) → wpList P #[o] (fun e c w' => e = .normal ∧ ∃ v, c = (stL ops 0 (depsB md o) vs a).put o.dst v ∧ (F (k + j) v w' ∧ G w w')) [o] (stL ops 0 (depsB md o) vs a) w
  | [], _, _, _, _, h, _ => by simp at h
  | o :: l, k, 0, o', hs, h, hf => by
    simp only [List.getElem?_cons_zero, Option.some.injEq] at h
    subst h
    simp only [steps8] at hs
    rw [Nat.add_zero] at hf
    rw [hf] at hs
    exact hs.1
  | o :: l, k, j + 1, o', hs, h, hf => by
    rw [show k + (j + 1) = k + 1 + j by omega] at hf ⊢
    have hs' : steps8 P md ops fb a C G F (k + 1) l := by
      simp only [steps8] at hs
      cases hk : fb k with
      | true => rw [hk] at hs; exact hs.2
      | false => rw [hk] at hs; exact hs
    exact steps8_at l (k + 1) j o' hs' (by simpa using h) hf
theorem wpAny_tail8 {fb ls : Nat → Bool} {size : Nat} {l : List Oper} {Q : Exit → Act → World → Prop} (hB : grow8B md fb ls size l = true) : ∀ (R : List Nat) (listed : Array Bool) (b : Act) (w : World), R.Pairwise (· < ·) → (∀ r ∈ R, fb r = false ∧ r < l.length) → listed.size = l.length → (∀ i, i < l.length → listed.getD i false = !R.contains i) →
    (∀ i o, l[i]? = some o → listed.getD i false = true → ∀ e ∈ o.after, Region.binds md e = true → listed.getD e.on false = true) →
    wpList P l.toArray Q (R.filterMap fun i => l[i]?) b w → wpAny P md l.toArray Q R.length listed b w
  | [], listed, b, w, _, _, hs, hl, _, h => by
    refine ⟨?_, h⟩
    refine List.eq_nil_iff_forall_not_mem.2 fun j hj => ?_
    obtain ⟨h1, o, ho, _⟩ := mem_ready.1 hj
    have hlt : j < l.length := by simpa using (Array.getElem?_eq_some_iff.1 ho).1
    have h2 := hl j hlt
    rw [Array.getD_eq_getD_getElem?, Array.getElem?_eq_getElem (by omega)] at h1 h2
    simp at h1 h2
    rw [h1] at h2; cases h2
  | r :: R, listed, b, w, hp, hr, hs, hl, hcl, h => by
    obtain ⟨hfr, hrl⟩ := hr r List.mem_cons_self
    obtain ⟨o, ho⟩ : ∃ o, l[r]? = some o := ⟨_, List.getElem?_eq_getElem hrl⟩
    have hon : l.toArray[r]? = some o := by simpa using ho
    obtain ⟨hg, _, hdep, hall⟩ := grow8B_spec hB ho
    rw [List.pairwise_cons] at hp
    have hget : ∀ i, i < l.length → ∀ d, listed.getD i d = !(r :: R).contains i := fun i hi d => by
      have := hl i hi
      rw [Array.getD_eq_getD_getElem?, Array.getElem?_eq_getElem (by omega)] at this ⊢
      exact this
    have hless : ∀ i, i < r → i < l.length → listed.getD i false = true := fun i hi hil => by
      rw [hl i hil]
      have : (r :: R).contains i = false := by
        rw [List.contains_eq_mem, decide_eq_false_iff_not]
        intro hm
        rcases List.mem_cons.1 hm with h | h
        · omega
        · have := hp.1 i h; omega
      rw [this]; rfl
    have hready : r ∈ Region.ready md l.toArray listed := by
      rw [mem_ready]
      refine ⟨by rw [hget r hrl]; simp, o, hon, fun e he hb => ?_⟩
      have := (hdep e he hb).1
      exact hless e.on this (by omega)
    refine ⟨fun h0 => absurd hready (by rw [h0]; simp), fun j hj => ?_⟩
    have hjk : j = r := by
      obtain ⟨h1, o', ho', h2⟩ := mem_ready.1 hj
      have ho'' : l[j]? = some o' := by simpa using ho'
      have hlt := (List.getElem?_eq_some_iff.1 ho'').1
      rw [hget j hlt] at h1
      have hjm : j ∈ r :: R := by
        simp only [Bool.not_eq_false'] at h1
        exact List.contains_iff_mem.1 h1
      rcases List.mem_cons.1 hjm with h3 | h3
      · exact h3
      · have hfj := (hr j (List.mem_cons_of_mem _ h3)).1
        have hlt2 := hp.1 j h3
        have h4 := ((grow8B_spec hB ho'').2.2.2 r o ho).2.2 hfj |>.2 hfr hlt2
        have h5 := anc_listed hcl _ _ _ _ ho'' h2 h4
        rw [hget r hrl] at h5
        simp at h5
    subst hjk
    simp only [List.filterMap_cons, ho] at h
    have hw : Region.wanted o (yielded l.toArray b.tmps) = true := by simp [Region.wanted, hg]
    simp only [wpList, hw, if_true] at h
    unfold wpOp
    simp only [hon, hw, if_true]
    have hgs : ∀ i, (listed.setIfInBounds j true).getD i false = (listed.getD i false || i == j) := fun i => by
      by_cases e : j = i
      · subst e
        rw [Array.getD_eq_getD_getElem?, Array.getElem?_setIfInBounds_self_of_lt (by omega)]
        simp
      · rw [getD_set_ne false e]
        have : (i == j) = false := by simp; exact fun h => e h.symm
        rw [this, Bool.or_false]
    have hnext : ∀ b' w', wpList P l.toArray Q (R.filterMap fun i => l[i]?) b' w' → wpAny P md l.toArray Q R.length (listed.setIfInBounds j true) b' w' := fun b' w' h' =>
      wpAny_tail8 hB R _ b' w' hp.2 (fun q hq => hr q (List.mem_cons_of_mem _ hq)) (by simpa using hs) (fun i hi => by
        rw [hgs, hl i hi]
        by_cases e : i = j
        · subst e
          have : R.contains i = false := by
            rw [List.contains_eq_mem, decide_eq_false_iff_not]
            intro hm
            have := hp.1 i hm; omega
          rw [this]; simp
        · have e1 : (i == j) = false := by simp [e]
          rw [e1, Bool.or_false, List.contains_cons, e1, Bool.false_or]) (fun i o' ho' hi e he hb => by
        rw [hgs] at hi ⊢
        rcases Bool.or_eq_true_iff.1 hi with hi | hi
        · rw [hcl i o' ho' hi e he hb]; rfl
        · have : i = j := by simpa using hi
          subst this
          rw [ho] at ho'
          injection ho' with ho'
          subst ho'
          have := (hdep e he hb).1
          rw [hless e.on this (by omega)]; rfl) h'
    rcases h with h | h
    · exact .inl (Oper.wp_mono hnext h)
    · exact .inr h
theorem wpAny_grow8 {fb ls : Nat → Bool} {l : List Oper} {a : Act} {Q : Exit → Act → World → Prop} {C : World → Prop} {G : World → World → Prop} {F : Nat → Value → World → Prop} (hQ : ∀ c a w, ¬ Q (.panic c) a w) (hB : grow8B md fb ls a.tmps.size l = true)
    (hst : ∀ w w', C w → G w w' → C w' ∧ ∀ i, fb i = true → ∀ v, F i v w → F i v w') (hrf : ∀ w, C w → G w w) (hs : steps8 P md l fb a C G F 0 l)
    (hlag : ∀ j o, l[j]? = some o → fb j = true → ls j = true → ∀ vs w, C w → (∀ i, depsB md o i = true → F i (vs i) w) → ∃ v, (∀ w', (execOp (stL l 0 (depsB md o) vs a).eval o).run P w' = .ok (.value v) w') ∧ F j v w)
    (hf : ∀ vs w', C w' → (∀ i, i < l.length → fb i = true → F i (vs i) w') → wpList P l.toArray Q (((List.range l.length).filter fun i => !fb i).filterMap fun i => l[i]?) (stL l 0 fb vs a) w') :
    ∀ (fuel : Nat) (listed : Array Bool) (w : World) (vs : Nat → Value), (List.range l.length).countP (fun i => !listed.getD i false) = fuel → listed.size = l.length → (∀ i, i < l.length → fb i = false → listed.getD i false = false) →
      (∀ i o, l[i]? = some o → listed.getD i false = true → ∀ e ∈ o.after, Region.binds md e = true → listed.getD e.on false = true) → C w →
      (∀ i, listed.getD i false = true → F i (vs i) w) → wpAny P md l.toArray Q fuel listed (stL l 0 (fun i => listed.getD i false) vs a) w := by
  have hsel : ∀ (j : Nat) (o : Oper) cs b, l.toArray[j]? = some o → o.op ≠ .select cs b := by
    unfold grow8B at hB
    rw [Bool.and_eq_true] at hB
    exact Region.noSelect_spec hB.1
  -- all that come first are done
  have full : ∀ (fuel : Nat) (listed : Array Bool) (w : World) (vs : Nat → Value), (List.range l.length).countP (fun i => !listed.getD i false) = fuel → listed.size = l.length → (∀ i, i < l.length → fb i = false → listed.getD i false = false) →
      (∀ i o, l[i]? = some o → listed.getD i false = true → ∀ e ∈ o.after, Region.binds md e = true → listed.getD e.on false = true) → C w →
      (∀ i, listed.getD i false = true → F i (vs i) w) → (∀ i, i < l.length → fb i = true → listed.getD i false = true) → wpAny P md l.toArray Q fuel listed (stL l 0 (fun i => listed.getD i false) vs a) w := by
    intro fuel listed w vs hc hsz ht hcl hC hF hfull
    have hl : ∀ i, i < l.length → listed.getD i false = fb i := fun i hi => by
      cases h : fb i with
      | true => exact hfull i hi h
      | false => exact ht i hi h
    have hfuel : ((List.range l.length).filter fun i => !fb i).length = fuel := by
      rw [← hc, ← List.countP_eq_length_filter]
      exact List.countP_congr fun i hi => by rw [hl i (List.mem_range.1 hi)]
    rw [← hfuel]
    have hsort : ((List.range l.length).filter fun i => !fb i).Pairwise (· < ·) := List.Pairwise.filter _ List.pairwise_lt_range
    refine wpAny_tail8 hB _ listed _ w hsort (fun r hr => ?_) hsz (fun i hi => ?_) hcl ?_
    · rw [List.mem_filter, List.mem_range] at hr
      exact ⟨by simpa using hr.2, hr.1⟩
    · rw [hl i hi]
      have : ((List.range l.length).filter fun i => !fb i).contains i = !fb i := by
        rw [List.contains_eq_mem]
        cases h : fb i <;> simp [List.mem_filter, h, hi]
      rw [this, Bool.not_not]
    · have := hf vs w hC (fun i hi hfi => hF i (hfull i hi hfi))
      rw [stL_congr l 0 _ fb vs vs a (fun i _ hi => ⟨hl i (by omega), fun _ => rfl⟩)]
      exact this
  intro fuel
  induction fuel with
  | zero =>
    intro listed w vs hc hsz ht hcl hC hF
    have hall := cnt_zero hc
    exact full 0 listed w vs hc hsz ht hcl hC hF (fun i hi _ => by simpa using hall i hi)
  | succ fuel ih =>
    intro listed w vs hc hsz ht hcl hC hF
    by_cases hfull : ∀ i, i < l.length → fb i = true → listed.getD i false = true
    · exact full (fuel + 1) listed w vs hc hsz ht hcl hC hF hfull
    · obtain ⟨m, hmN, hmun, hmin⟩ : ∃ m, (m < l.length ∧ fb m = true) ∧ listed.getD m false = false ∧ ∀ i, i < m → fb i = true → listed.getD i false = true := by
        have : ∃ m, (m < l.length ∧ fb m = true) ∧ listed.getD m false = false := by
          rcases Classical.not_forall.1 hfull with ⟨m, hm⟩
          rw [Classical.not_imp, Classical.not_imp] at hm
          exact ⟨m, ⟨hm.1, hm.2.1⟩, by simpa using hm.2.2⟩
        obtain ⟨m, h1, h2⟩ := this
        clear hfull
        induction m using Nat.strongRecOn with
        | _ m ihm =>
          by_cases h : ∃ i, i < m ∧ fb i = true ∧ listed.getD i false = false
          · obtain ⟨i, hi, hfi, hi2⟩ := h
            exact ihm i hi ⟨by omega, hfi⟩ hi2
          · refine ⟨m, h1, h2, fun i hi hfi => ?_⟩
            cases hv : listed.getD i false with
            | true => rfl
            | false => exact absurd ⟨i, hi, hfi, hv⟩ h
      have hgt : ∀ i, i < l.length → ∀ d, listed.getD i d = listed.getD i false := fun i hi d => by
        rw [Array.getD_eq_getD_getElem?, Array.getD_eq_getD_getElem?, Array.getElem?_eq_getElem (by omega)]
        rfl
      obtain ⟨om, hom⟩ : ∃ o, l[m]? = some o := ⟨_, List.getElem?_eq_getElem hmN.1⟩
      have hmdeps : ∀ e ∈ om.after, Region.binds md e = true → listed.getD e.on false = true := fun e he hb => by
        have := (grow8B_spec hB hom).2.2.1 e he hb
        exact hmin e.on this.1 (this.2 hmN.2)
      have hready : m ∈ Region.ready md l.toArray listed := by
        rw [mem_ready]
        exact ⟨by rw [hgt m hmN.1]; exact hmun, om, by simpa using hom, hmdeps⟩
      have go : ∀ (j : Nat) (o : Oper) v w', fb j = true → l[j]? = some o → listed.getD j false = false → (∀ e ∈ o.after, Region.binds md e = true → listed.getD e.on false = true) → F j v w' → G w w' → wpAny P md l.toArray Q fuel (listed.setIfInBounds j true) ((stL l 0 (fun i => listed.getD i false) vs a).put o.dst v) w' := by
        intro j o v w' hjN ho h1 h2 hFv hG
        obtain ⟨_, _, _, hall⟩ := grow8B_spec hB ho
        have hlt := (List.getElem?_eq_some_iff.1 ho).1
        obtain ⟨hC', hst'⟩ := hst w w' hC hG
        have hadd := stL_add l 0 j (fun i => listed.getD i false) vs a o v ho (by rw [Nat.zero_add]; exact h1) (fun i o' hi hne d hd => (hall i o' hi).1 (fun e => hne e.symm) d hd)
        simp only [Nat.zero_add] at hadd
        have hget : ∀ i, (listed.setIfInBounds j true).getD i false = (listed.getD i false || i == j) := fun i => by
          by_cases e : j = i
          · subst e
            rw [Array.getD_eq_getD_getElem?, Array.getElem?_setIfInBounds_self_of_lt (by omega)]
            simp
          · rw [getD_set_ne false e]
            have : (i == j) = false := by simp; exact fun h => e h.symm
            rw [this, Bool.or_false]
        rw [← hadd, ← stL_congr l 0 (fun i => (listed.setIfInBounds j true).getD i false) _ (fun i => if i = j then v else vs i) _ a (fun i _ _ => ⟨hget i, fun _ => rfl⟩)]
        refine ih (listed.setIfInBounds j true) w' (fun i => if i = j then v else vs i) ?_ (by simpa using hsz) (fun i hi hNi => ?_) (fun i o' ho' hi e he hb => ?_) hC' (fun i hl => ?_)
        · have := cnt_set l.length (fun i => !listed.getD i false) (fun i => !(listed.setIfInBounds j true).getD i false) j hlt (by rw [h1]; rfl) (by rw [hget]; simp) (fun i hi => by rw [hget]; simp [hi])
          omega
        · rw [hget, ht i hi hNi]
          have : (i == j) = false := by
            simp
            intro e
            subst e
            rw [hjN] at hNi; cases hNi
          rw [this]; rfl
        · rw [hget] at hi ⊢
          rcases Bool.or_eq_true_iff.1 hi with hi | hi
          · rw [hcl i o' ho' hi e he hb]; rfl
          · have : i = j := by simpa using hi
            subst this
            rw [ho] at ho'
            injection ho' with ho'
            subst ho'
            rw [h2 e he hb]; rfl
        · rw [hget] at hl
          by_cases e : i = j
          · subst e; simpa using hFv
          · rw [if_neg e]
            have : (i == j) = false := by simp [e]
            rw [this, Bool.or_false] at hl
            refine hst' i ?_ _ (hF i hl)
            cases hfi : fb i with
            | true => rfl
            | false =>
              have hil : i < l.length := by
                rcases Nat.lt_or_ge i listed.size with h | h
                · omega
                · rw [Array.getD_eq_getD_getElem?, Array.getElem?_eq_none h] at hl; simp at hl
              rw [ht i hil hfi] at hl; cases hl
      have dl : ∀ o, (∀ e ∈ o.after, Region.binds md e = true → listed.getD e.on false = true) → ∀ i, depsB md o i = true → listed.getD i false = true := fun o h2 i hi => by
        obtain ⟨e, he, hb, rfl⟩ := depsB_mem hi
        exact h2 e he hb
      have alike : ∀ (j : Nat) (o : Oper), l[j]? = some o → (∀ e ∈ o.after, Region.binds md e = true → listed.getD e.on false = true) → Alike2 o (stL l 0 (fun i => listed.getD i false) vs a) (stL l 0 (depsB md o) vs a) := by
        intro j o ho h2
        obtain ⟨_, _, hdep, hall⟩ := grow8B_spec hB ho
        refine stL_alike l 0 _ _ vs a a (fun i o' hi hne d hd => ?_) ⟨rfl, fun _ _ => rfl⟩
        rw [Nat.zero_add] at hne
        refine (hall i o' hi).2.1 (.inl ?_) ?_ d hd
        · cases hfi : fb i with
          | true => rfl
          | false =>
            have hil := (List.getElem?_eq_some_iff.1 hi).1
            have h0 := ht i hil hfi
            cases hdp : depsB md o i with
            | true => rw [dl o h2 i hdp] at h0; cases h0
            | false => rw [h0, hdp] at hne; exact absurd rfl hne
        cases hdp : depsB md o i with
        | false => rfl
        | true => rw [dl o h2 i hdp, hdp] at hne; exact absurd rfl hne
      by_cases hlg : ∀ i, i < l.length → fb i = true → listed.getD i false = false → ls i = true
      · obtain ⟨hg, hdst, hdep, hall⟩ := grow8B_spec hB hom
        have hal := alike m om hom hmdeps
        have hsm : ∀ cs b, om.op ≠ .select cs b := fun cs b => hsel m om cs b (by simpa using hom)
        obtain ⟨v, hrun, hFv⟩ := hlag m om hom hmN.2 (hlg m hmN.1 hmN.2 hmun) vs w hC (fun i hi => hF i (dl om hmdeps i hi))
        have hrun2 : ∀ w', (execOp (stL l 0 (fun i => listed.getD i false) vs a).eval om).run P w' = .ok (.value v) w' := fun w' => by
          rw [execOp_congr om hsm (fun x hx => hal.2 x hx)]; exact hrun w'
        refine wpAny_first (i := m) (oi := om) (v := v) (by simpa using hom) hsel (fun c a w h => absurd h (hQ _ _ _)) fuel listed _ w (fun j oj hj hne hun hno => ?_) hready (.inl ⟨by simp [Region.wanted, hg], hrun2⟩) ?_
        · have hj' : l[j]? = some oj := by simpa using hj
          have hjl := (List.getElem?_eq_some_iff.1 hj').1
          obtain ⟨hgj, _, _, hallj⟩ := grow8B_spec hB hj'
          have hjm : depsB md oj m = false := by
            cases hdp : depsB md oj m with
            | false => rfl
            | true =>
              obtain ⟨e, he, hb, h⟩ := depsB_mem hdp
              exact absurd h (hno e he hb)
          have hmj : depsB md om j = false := by
            cases hdp : depsB md om j with
            | false => rfl
            | true =>
              obtain ⟨e, he, hb, h⟩ := depsB_mem hdp
              have h3 := hmdeps e he hb
              rw [h, ← hgt j hjl true, hun] at h3; cases h3
          have looks : ∀ (o : Oper) (d : Tmp), o.guard = none → .tmp d ∉ o.op.operands → d ∉ o.looksAt l.toArray := fun o d hg hn hm => by
            unfold Oper.looksAt at hm
            rw [hg] at hm
            simp only [List.append_nil, List.mem_filterMap] at hm
            obtain ⟨x, hx, hx2⟩ := hm
            cases x with
            | tmp t =>
              simp at hx2
              subst hx2
              exact hn (by simpa using hx)
            | _ => simp at hx2
          unfold Oper.apart
          rw [Bool.and_eq_true]
          refine ⟨?_, ?_⟩
          · cases hd : om.dst with
            | none => rfl
            | some d =>
              simp only [Bool.and_eq_true, Bool.not_eq_true']
              refine ⟨?_, ?_⟩
              · have := looks oj d hgj ((hallj m om hom).2.1 (.inl hmN.2) hjm d hd)
                simpa using this
              · have := (hall j oj hj').1 (fun e => hne e.symm) d hd
                simpa using this
          · cases hd : oj.dst with
            | none => rfl
            | some d =>
              have := looks om d hg ((hall j oj hj').2.1 (.inr (hlg m hmN.1 hmN.2 hmun)) hmj d hd)
              simpa using this
        · exact go m om v w hmN.2 hom hmun hmdeps hFv (hrf w hC)
      · have hlag2 : ∃ i, i < l.length ∧ fb i = true ∧ listed.getD i false = false ∧ ls i = false := Classical.byContradiction fun hc => hlg fun i h1 h2 h3 => by
          cases h4 : ls i with
          | true => rfl
          | false => exact absurd ⟨i, h1, h2, h3, h4⟩ hc
        obtain ⟨i0, hi0, hf0, hun0, hl0⟩ := hlag2
        obtain ⟨o0, ho0⟩ : ∃ o, l[i0]? = some o := ⟨_, List.getElem?_eq_getElem hi0⟩
        refine ⟨fun h0 => absurd hready (by rw [h0]; simp), fun j hj => ?_⟩
        obtain ⟨h1, o, ho', h2⟩ := mem_ready.1 hj
        have ho : l[j]? = some o := by simpa using ho'
        have hlt := (List.getElem?_eq_some_iff.1 ho).1
        rw [hgt j hlt] at h1
        obtain ⟨hg, hdst, hdep, hall⟩ := grow8B_spec hB ho
        have hjN : fb j = true := by
          cases hfj : fb j with
          | true => rfl
          | false =>
            rcases ((hall i0 o0 ho0).2.2 hfj).1 hf0 with h3 | h3
            · rw [hl0] at h3; cases h3
            · have := anc_listed hcl _ _ _ _ ho h2 h3
              rw [hun0] at this; cases this
        have hstep := steps8_at l 0 j o hs ho (by rw [Nat.zero_add]; exact hjN) vs w hC (fun i hi => hF i (dl o h2 i hi))
        rw [Nat.zero_add] at hstep
        have hw : Region.wanted o (yielded l.toArray (stL l 0 (fun i => listed.getD i false) vs a).tmps) = true := by simp [Region.wanted, hg]
        unfold wpOp
        simp only [ho', hw, if_true]
        left
        exact wp_move_frame hg (fun cs b => hsel j o cs b ho') (alike j o ho h2) (fun d hd => by rw [stL_size]; exact hdst d hd) hstep (fun v w' h => go j o v w' hjN ho h1 h2 h.1 h.2)
end
theorem wp_region_grow8 {P : Program} {id : Nat} {Q : Exit → Act → World → Prop} {a : Act} {w : World} {l : List Oper} (fb ls : Nat → Bool) (C : World → Prop) (G : World → World → Prop) (F : Nat → Value → World → Prop) (hm : P.follows .mixedOrders = true) (hB : grow8B .any fb ls a.tmps.size l = true)
    (hC : C w.drew) (hst : ∀ w w', C w → G w w' → C w' ∧ ∀ i, fb i = true → ∀ v, F i v w → F i v w') (hrf : ∀ w, C w → G w w) (hs : steps8 P .any l fb a C G F 0 l)
    (hlag : ∀ j o, l[j]? = some o → fb j = true → ls j = true → ∀ vs w, C w → (∀ i, depsB .any o i = true → F i (vs i) w) → ∃ v, (∀ w', (execOp (stL l 0 (depsB .any o) vs a).eval o).run P w' = .ok (.value v) w') ∧ F j v w)
    (hf : ∀ vs w', C w' → (∀ i, i < l.length → fb i = true → F i (vs i) w') → wpList P l.toArray (fun e b w => e = .normal ∧ Q .normal b w) (((List.range l.length).filter fun i => !fb i).filterMap fun i => l[i]?) (stL l 0 fb vs a) w') : (Code.region id l.toArray true).wp P Q a w := by
  refine Code.wp_mono (Q := fun e b w => e = .normal ∧ Q .normal b w) (fun e b w h => by obtain ⟨rfl, h⟩ := h; exact h) ?_
  refine wp_region_any hm ?_
  have hn : ∀ i, (Array.replicate l.toArray.size false).getD i false = false := fun i => by
    simp [Array.getD_eq_getD_getElem?, Array.getElem?_replicate]
    split <;> rfl
  have h0 : stL l 0 (fun i => (Array.replicate l.toArray.size false).getD i false) (fun _ => undef) a = a := by
    rw [stL_congr l 0 _ (fun _ => false) (fun _ => undef) (fun _ => undef) a (fun i _ hi => ⟨hn i, fun _ => rfl⟩)]
    exact stL_none _ _ _ _
  have := wpAny_grow8 (Q := fun e b w => e = .normal ∧ Q .normal b w) (C := C) (G := G) (F := F) (fun c a w h => absurd h.1 (by simp)) hB hst hrf hs hlag hf l.toArray.size (Array.replicate l.toArray.size false) w.drew (fun _ => undef) (by
    rw [List.countP_eq_length.2 (fun i hi => by rw [hn]; rfl)]
    simp) (by simp) (fun i hi _ => hn i) (fun i o _ h => by rw [hn] at h; cases h) hC (fun i h => by rw [hn] at h; cases h)
  rw [h0] at this
  exact this
end Go.Proofs.Ytmdfgidejdiiiaa
end
