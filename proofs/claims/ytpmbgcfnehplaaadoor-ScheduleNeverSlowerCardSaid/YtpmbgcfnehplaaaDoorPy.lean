/- Several texts in one: E17 Po. -/
import Derived.Test.YtpmbgcfnehplaaaDoorE15
section
/- The greedy order: plain. -/
set_option linter.unusedVariables false
set_option linter.unusedSimpArgs false
namespace Go.Proofs.YtpmbgcfnehplaaaDoor

/-- When can i be issued? -/
def issF (t : Int × List Int) (i : Ins) : Int := rdF t.2 t.1 i.rd
def freeF (l : List Ins) (tk : List Bool) (k : Nat) : Bool := !(tk.getD k false) && (depRow l k k).all fun i => tk.getD i.toNat false
/-- Is k better than what is best so far? -/
def betF (l : List Ins) (H : List Int) (t : Int × List Int) (b : Int × Int) (k : Nat) : Bool :=
  decide (b.1 < 0) || decide (issF t (l.getD k Ins.zero) < b.2) || (decide (issF t (l.getD k Ins.zero) = b.2) && decide (H.getD b.1.toNat 0 < H.getD k 0))
def stepB (l : List Ins) (H : List Int) (t : Int × List Int) (tk : List Bool) (b : Int × Int) (k : Nat) : Int × Int :=
  if freeF l tk k then (if betF l H t b k then ((k : Int), issF t (l.getD k Ins.zero)) else b) else b
def bestB (l : List Ins) (H : List Int) (t : Int × List Int) (tk : List Bool) (m : Nat) : Int × Int := (List.range m).foldl (stepB l H t tk) (-1, 0)
theorem bestB_zero (l : List Ins) (H : List Int) (t : Int × List Int) (tk : List Bool) : bestB l H t tk 0 = (-1, 0) := rfl
theorem bestB_succ (l : List Ins) (H : List Int) (t : Int × List Int) (tk : List Bool) (m : Nat) : bestB l H t tk (m + 1) = stepB l H t tk (bestB l H t tk m) m := by
  unfold bestB
  rw [List.range_succ, List.foldl_append]; rfl
/-- The state of the greedy order: which are taken; the order so far. -/
def grS (l : List Ins) (H : List Int) (s : List Bool × List Ins) : List Bool × List Ins :=
  (s.1.set (bestB l H (tmF s.2) s.1 l.length).1.toNat true, s.2 ++ [l.getD (bestB l H (tmF s.2) s.1 l.length).1.toNat Ins.zero])
def gr (l : List Ins) (H : List Int) : Nat → List Bool × List Ins
  | 0 => (List.replicate l.length false, [])
  | r + 1 => grS l H (gr l H r)
def grF (l : List Ins) : List Ins := (gr l (htF l) l.length).2
def grD (l : List Ins) : List Ins := if fineF l then grF l else []
/-- What bestB has found. -/
theorem bestB_spec (l : List Ins) (H : List Int) (t : Int × List Int) (tk : List Bool) : ∀ m, (bestB l H t tk m = (-1, 0) ∧ ∀ k, k < m → freeF l tk k = false) ∨
    (∃ k : Nat, k < m ∧ bestB l H t tk m = ((k : Int), issF t (l.getD k Ins.zero)) ∧ freeF l tk k = true)
  | 0 => .inl ⟨rfl, fun k h => absurd h (Nat.not_lt_zero k)⟩
  | m + 1 => by
    rw [bestB_succ]
    unfold stepB
    by_cases hf : freeF l tk m = true
    · rw [if_pos hf]
      refine .inr ?_
      by_cases hb : betF l H t (bestB l H t tk m) m = true
      · rw [if_pos hb]; exact ⟨m, by omega, rfl, hf⟩
      · rw [if_neg hb]
        rcases bestB_spec l H t tk m with ⟨h1, -⟩ | ⟨k, h1, h2, h3⟩
        · exfalso; apply hb; rw [h1]; rfl
        · exact ⟨k, by omega, h2, h3⟩
    · rw [if_neg hf]
      rcases bestB_spec l H t tk m with ⟨h1, h2⟩ | ⟨k, h1, h2, h3⟩
      · refine .inl ⟨h1, fun k hk => ?_⟩
        by_cases e : k = m
        · subst e; simpa using hf
        · exact h2 k (by omega)
      · exact .inr ⟨k, by omega, h2, h3⟩
theorem least_false (tk : List Bool) : ∀ k : Nat, tk[k]? = some false → ∃ k' : Nat, tk[k']? = some false ∧ ∀ i, i < k' → tk[i]? ≠ some false := fun k => by
  induction k using Nat.strongRecOn with
  | _ k ih =>
    intro h
    by_cases hh : ∃ i, i < k ∧ tk[i]? = some false
    · obtain ⟨i, h1, h2⟩ := hh
      exact ih i h1 h2
    · exact ⟨k, h, fun i hi hc => hh ⟨i, hi, hc⟩⟩
theorem free_some {l : List Ins} {tk : List Bool} (h : false ∈ tk) : ∃ k, k < tk.length ∧ freeF l tk k = true := by
  obtain ⟨k0, hk0⟩ := List.getElem?_of_mem h
  obtain ⟨k, h1, h2⟩ := least_false tk k0 hk0
  have hk := (List.getElem?_eq_some_iff.1 h1).1
  refine ⟨k, hk, ?_⟩
  unfold freeF
  rw [Bool.and_eq_true]
  refine ⟨by rw [List.getD_eq_getElem?_getD, h1]; rfl, ?_⟩
  rw [List.all_eq_true]
  intro v hv
  obtain ⟨i, hi, rfl, -⟩ := depRow_mem hv
  have h3 := h2 i hi
  rw [Int.toNat_natCast, List.getD_eq_getElem?_getD]
  have hi2 : tk[i]? = some tk[i] := List.getElem?_eq_getElem (by omega)
  rw [hi2] at h3 ⊢
  cases e : tk[i] with
  | true => rfl
  | false => rw [e] at h3; exact absurd rfl h3
theorem free_not {l : List Ins} {tk : List Bool} {k : Nat} (h : freeF l tk k = true) (hk : k < tk.length) : tk[k]? = some false := by
  unfold freeF at h
  obtain ⟨h1, -⟩ := Bool.and_eq_true_iff.1 h
  rw [List.getD_eq_getElem?_getD, List.getElem?_eq_getElem hk] at h1
  rw [List.getElem?_eq_getElem hk]
  cases e : tk[k] with
  | true => rw [e] at h1; cases h1
  | false => rfl
/-- What holds when r are taken. -/
theorem gr_inv (l : List Ins) (H : List Int) : ∀ r, r ≤ l.length → (gr l H r).1.length = l.length ∧ (gr l H r).1.count false = l.length - r ∧ (gr l H r).2.length = r ∧ (∀ i ∈ (gr l H r).2, i ∈ l) ∧
    (r < l.length → ∃ k : Nat, k < l.length ∧ bestB l H (tmF (gr l H r).2) (gr l H r).1 l.length = ((k : Int), issF (tmF (gr l H r).2) (l.getD k Ins.zero)) ∧ (gr l H r).1[k]? = some false) := fun r => by
  have main : ∀ r, r ≤ l.length → ((gr l H r).1.length = l.length ∧ (gr l H r).1.count false = l.length - r ∧ (gr l H r).2.length = r ∧ (∀ i ∈ (gr l H r).2, i ∈ l)) →
      (r < l.length → ∃ k : Nat, k < l.length ∧ bestB l H (tmF (gr l H r).2) (gr l H r).1 l.length = ((k : Int), issF (tmF (gr l H r).2) (l.getD k Ins.zero)) ∧ (gr l H r).1[k]? = some false) := by
    intro r hr ⟨h1, h2, h3, h4⟩ hlt
    have hm : false ∈ (gr l H r).1 := by
      rw [← List.count_pos_iff, h2]; omega
    obtain ⟨k, hk, hf⟩ := free_some (l := l) hm
    rcases bestB_spec l H (tmF (gr l H r).2) (gr l H r).1 l.length with ⟨-, h5⟩ | ⟨k', h5, h6, h7⟩
    · rw [h5 k (by omega)] at hf; cases hf
    · exact ⟨k', h5, h6, free_not h7 (by omega)⟩
  induction r with
  | zero =>
    intro hr
    have h0 : ((gr l H 0).1.length = l.length ∧ (gr l H 0).1.count false = l.length - 0 ∧ (gr l H 0).2.length = 0 ∧ (∀ i ∈ (gr l H 0).2, i ∈ l)) := ⟨by simp [gr], by simp [gr], rfl, fun i hi => by simp [gr] at hi⟩
    exact ⟨h0.1, h0.2.1, h0.2.2.1, h0.2.2.2, main 0 hr h0⟩
  | succ r ih =>
    intro hr
    obtain ⟨h1, h2, h3, h4, h5⟩ := ih (by omega)
    obtain ⟨k, hk, hb, hf⟩ := h5 (by omega)
    have e : gr l H (r + 1) = ((gr l H r).1.set k true, (gr l H r).2 ++ [l.getD k Ins.zero]) := by
      show grS l H (gr l H r) = _
      unfold grS
      rw [hb, Int.toNat_natCast]
    have h0 : ((gr l H (r + 1)).1.length = l.length ∧ (gr l H (r + 1)).1.count false = l.length - (r + 1) ∧ (gr l H (r + 1)).2.length = r + 1 ∧ (∀ i ∈ (gr l H (r + 1)).2, i ∈ l)) := by
      rw [e]
      refine ⟨by simp [h1], ?_, by simp [h3], fun i hi => ?_⟩
      · show ((gr l H r).1.set k true).count false = _
        have hkl : k < (gr l H r).1.length := by omega
        rw [List.count_set hkl]
        have e2 : (gr l H r).1[k] = false := by
          have := hf
          rw [List.getElem?_eq_getElem hkl] at this
          exact Option.some.inj this
        rw [e2, h2]
        simp; omega
      · rcases List.mem_append.1 hi with hi | hi
        · exact h4 i hi
        · rw [List.mem_singleton.1 hi, List.getD_eq_getElem?_getD, List.getElem?_eq_getElem hk]
          exact List.getElem_mem hk
    exact ⟨h0.1, h0.2.1, h0.2.2.1, h0.2.2.2, main (r + 1) hr h0⟩
theorem gr_succ {l : List Ins} {H : List Int} {r k : Nat} {f : Int} (hb : bestB l H (tmF (gr l H r).2) (gr l H r).1 l.length = ((k : Int), f)) : gr l H (r + 1) = ((gr l H r).1.set k true, (gr l H r).2 ++ [l.getD k Ins.zero]) := by
  show grS l H (gr l H r) = _
  unfold grS
  rw [hb]; rfl
theorem gr_fine {l : List Ins} (h : fineF l = true) {o : List Ins} (h1 : 1 ≤ o.length) (h2 : o.length ≤ l.length) (h3 : ∀ i ∈ o, i ∈ l) : fineF o = true := by
  have := fineF_len h
  unfold fineF at h ⊢
  obtain ⟨h4, h5⟩ := Bool.and_eq_true_iff.1 h
  rw [List.all_eq_true] at h5
  rw [Bool.and_eq_true]
  refine ⟨?_, List.all_eq_true.2 fun i hi => h5 i (h3 i hi)⟩
  unfold inB
  rw [Bool.and_eq_true, decide_eq_true_eq, decide_eq_true_eq]
  omega
/-- Time of an order with one more: one more than when that one can be issued. -/
theorem cyc_snoc {o : List Ins} {i : Ins} (h : fineF (o ++ [i]) = true) : cycF (o ++ [i]) = issF (tmF o) i + 1 := by
  unfold cycF
  rw [if_pos h, tmF_snoc]; rfl
end Go.Proofs.YtpmbgcfnehplaaaDoor
end
section
/- Orders that keep every dependency, in plain terms: neighbours exchanged, the greedy order, the lower bound of the cycles. No program in sight. -/
set_option linter.unusedVariables false
set_option linter.unusedSimpArgs false
namespace Go.Proofs.YtpmbgcfnehplaaaDoor
open Go.RowKit

/-! ### Orders that keep every dependency -/
def qF (a b x : Ins) : Bool := decide (x = a ∨ x = b)
/-- y is x in an order that keeps every dependency. -/
def Tr (x y : List Ins) : Prop := ∀ a b, (depF a b = true ∨ a = b) → x.filter (qF a b) = y.filter (qF a b)
theorem Tr.refl (x : List Ins) : Tr x x := fun _ _ _ => rfl
theorem depF_comm (a b : Ins) : depF a b = depF b a := by
  unfold depF
  rw [Bool.or_comm (a.op == 0), Bool.and_comm (sumOp a.op), Bool.or_comm (a.wt.any _)]
theorem cnt_filter {p : Ins → Bool} {v : Ins} (h : p v = true) (l : List Ins) : (l.filter p).count v = l.count v := by
  induction l with
  | nil => rfl
  | cons x l ih =>
    by_cases hx : p x = true
    · rw [List.filter_cons_of_pos hx, List.count_cons, List.count_cons, ih]
    · rw [List.filter_cons_of_neg hx, List.count_cons, ih]
      have : x ≠ v := fun e => hx (e ▸ h)
      simp [this]
theorem qF_self (a b : Ins) : qF a b a = true := by simp [qF]
theorem qF_other (a b : Ins) : qF a b b = true := by simp [qF]
theorem Tr.count {x y : List Ins} (h : Tr x y) (v : Ins) : x.count v = y.count v := by
  rw [← cnt_filter (qF_self v v) x, ← cnt_filter (qF_self v v) y, h v v (.inr rfl)]
theorem Tr.perm {x y : List Ins} (h : Tr x y) : x.Perm y := List.perm_iff_count.2 h.count
theorem take_snocI {l : List Ins} {k : Nat} {v : Ins} (h : l[k]? = some v) : l.take (k + 1) = l.take k ++ [v] := by
  rw [List.take_add_one, h]; rfl
/-- The places of v. -/
def posF (m : List Ins) (v : Ins) : List Nat := (List.range m.length).filter fun p => decide (m[p]? = some v)
theorem pos_len (m : List Ins) (v : Ins) : ∀ t, t ≤ m.length → ((List.range t).filter fun p => decide (m[p]? = some v)).length = (m.take t).count v
  | 0, _ => by simp
  | t + 1, h => by
    have ih := pos_len m v t (by omega)
    obtain ⟨x, hx⟩ : ∃ x, m[t]? = some x := ⟨_, List.getElem?_eq_getElem (by omega)⟩
    rw [List.range_succ, List.filter_append, List.length_append, ih, take_snocI hx, List.count_append]
    by_cases e : x = v
    · simp [hx, e]
    · simp [hx, e]
theorem posF_len (m : List Ins) (v : Ins) : (posF m v).length = m.count v := by
  have := pos_len m v m.length (Nat.le_refl _)
  rw [List.take_length] at this
  exact this
theorem posF_mk {m : List Ins} {v : Ins} {p : Nat} (h : m[p]? = some v) : (posF m v)[(m.take p).count v]? = some p := by
  have hp : p < m.length := (List.getElem?_eq_some_iff.1 h).1
  unfold posF
  obtain ⟨d, hd⟩ : ∃ d, m.length = (p + 1) + d := ⟨m.length - (p + 1), by omega⟩
  rw [hd, List.range_add, List.filter_append, List.range_succ, List.filter_append, List.append_assoc, ← pos_len m v p (by omega), List.getElem?_append_right (Nat.le_refl _), Nat.sub_self]
  simp [h]
theorem posF_of {m : List Ins} {v : Ins} {c p : Nat} (h : (posF m v)[c]? = some p) : p < m.length ∧ m[p]? = some v ∧ (m.take p).count v = c := by
  have hm := List.mem_of_getElem? h
  obtain ⟨h1, h2⟩ := List.mem_filter.1 hm
  have h3 : m[p]? = some v := of_decide_eq_true h2
  refine ⟨by simpa using h1, h3, ?_⟩
  have h4 := posF_mk h3
  have nd : (posF m v).Nodup := (List.nodup_range).filter _
  have hc : c < (posF m v).length := (List.getElem?_eq_some_iff.1 h).1
  have hd : (m.take p).count v < (posF m v).length := (List.getElem?_eq_some_iff.1 h4).1
  exact (List.getElem?_inj hd nd).1 (h4.trans h.symm)
/-- Where the i-th of l stands in m: the k-th equal one for the k-th. -/
def plF (l m : List Ins) (i : Nat) : Nat := (posF m (l.getD i Ins.zero)).getD ((l.take i).count (l.getD i Ins.zero)) m.length
theorem getD_of {l : List Ins} {i : Nat} {v : Ins} (h : l[i]? = some v) : l.getD i Ins.zero = v := by rw [List.getD_eq_getElem?_getD, h]; rfl
theorem plF_some {l m : List Ins} {i : Nat} {v : Ins} (h : l[i]? = some v) (hc : (l.take i).count v < m.count v) : m[plF l m i]? = some v ∧ (m.take (plF l m i)).count v = (l.take i).count v := by
  unfold plF
  rw [getD_of h, List.getD_eq_getElem?_getD]
  obtain ⟨p, hp⟩ : ∃ p, (posF m v)[(l.take i).count v]? = some p := ⟨_, List.getElem?_eq_getElem (by rw [posF_len]; exact hc)⟩
  rw [hp]
  obtain ⟨-, h2, h3⟩ := posF_of hp
  exact ⟨h2, h3⟩
theorem plF_none {l m : List Ins} {i : Nat} {v : Ins} (h : l[i]? = some v) (hc : m.count v ≤ (l.take i).count v) : plF l m i = m.length := by
  unfold plF
  rw [getD_of h, List.getD_eq_getElem?_getD, List.getElem?_eq_none (by rw [posF_len]; exact hc)]; rfl
theorem cnt_take_lt {l : List Ins} {v : Ins} {k k' : Nat} (h : l[k]? = some v) (hk : k < k') : (l.take k).count v < (l.take k').count v := by
  have e : l.take (k + 1) = l.take k ++ [v] := take_snocI h
  have hs : ((l.take (k + 1)).Sublist (l.take k')) := (List.take_prefix_take_left (by omega)).sublist
  have := hs.count_le v
  rw [e, List.count_append] at this
  simp at this
  omega
theorem cnt_take_inj {l : List Ins} {v : Ins} {k k' : Nat} (h : l[k]? = some v) (h' : l[k']? = some v) (hc : (l.take k).count v = (l.take k').count v) : k = k' := by
  rcases Nat.lt_trichotomy k k' with h1 | h1 | h1
  · have := cnt_take_lt h h1; omega
  · exact h1
  · have := cnt_take_lt h' h1; omega
theorem cnt_lt_all {l : List Ins} {v : Ins} {k : Nat} (h : l[k]? = some v) : (l.take k).count v < l.count v := by
  have := cnt_take_lt h (List.getElem?_eq_some_iff.1 h).1
  rwa [List.take_length] at this
theorem plF_inj {l m : List Ins} {i j : Nat} (hi : i < l.length) (hj : j < l.length) (hli : plF l m i < m.length) (he : plF l m i = plF l m j) : i = j := by
  obtain ⟨v, hv⟩ : ∃ v, l[i]? = some v := ⟨_, List.getElem?_eq_getElem hi⟩
  obtain ⟨u, hu⟩ : ∃ v, l[j]? = some v := ⟨_, List.getElem?_eq_getElem hj⟩
  have h1 : (l.take i).count v < m.count v := Nat.lt_of_not_le fun h => by have := plF_none hv h; omega
  have h2 : (l.take j).count u < m.count u := Nat.lt_of_not_le fun h => by have := plF_none hu h; omega
  obtain ⟨a1, a2⟩ := plF_some hv h1
  obtain ⟨b1, b2⟩ := plF_some hu h2
  rw [he] at a1 a2
  rw [a1] at b1
  obtain rfl := Option.some.inj b1
  exact cnt_take_inj hv hu (a2.symm.trans b2)
/-- Where a thing stands among those that q keeps. -/
theorem fil_at {x : List Ins} {q : Ins → Bool} {a : Ins} {i : Nat} (h : x[i]? = some a) (hq : q a = true) :
    (x.filter q)[(x.take i).countP q]? = some a ∧ ((x.filter q).take ((x.take i).countP q)).count a = (x.take i).count a := by
  have hd : x.drop i = a :: x.drop (i + 1) := by
    obtain ⟨hi, e⟩ := List.getElem?_eq_some_iff.1 h
    rw [List.drop_eq_getElem_cons hi, e]
  have e : x.filter q = (x.take i).filter q ++ (a :: (x.drop (i + 1)).filter q) := by
    rw [← List.filter_cons_of_pos hq, ← hd, ← List.filter_append, List.take_append_drop]
  have el : (x.take i).countP q = ((x.take i).filter q).length := List.countP_eq_length_filter
  rw [e, el]
  refine ⟨by rw [List.getElem?_append_right (Nat.le_refl _), Nat.sub_self]; rfl, ?_⟩
  rw [List.take_left, cnt_filter hq]
theorem countP_take_le {x : List Ins} {q : Ins → Bool} {i j : Nat} (h : i ≤ j) : (x.take i).countP q ≤ (x.take j).countP q :=
  ((List.take_prefix_take_left h).sublist).countP_le
theorem countP_take_lt {x : List Ins} {q : Ins → Bool} {a : Ins} {i j : Nat} (h : x[i]? = some a) (hq : q a = true) (hij : i < j) : (x.take i).countP q < (x.take j).countP q := by
  have := countP_take_le (x := x) (q := q) (i := i + 1) (j := j) (by omega)
  rw [take_snocI h, List.countP_append] at this
  simp [hq] at this
  omega
theorem Tr.pl {x y : List Ins} (h : Tr x y) {i : Nat} {v : Ins} (hi : x[i]? = some v) : y[plF x y i]? = some v ∧ (y.take (plF x y i)).count v = (x.take i).count v :=
  plF_some hi (by rw [← h.count]; exact cnt_lt_all hi)
theorem Tr.ord {x y : List Ins} (h : Tr x y) {i j : Nat} {a b : Ins} (hi : x[i]? = some a) (hj : x[j]? = some b) (hd : depF a b = true ∨ a = b) (hij : i < j) : plF x y i < plF x y j := by
  obtain ⟨a1, a2⟩ := h.pl hi
  obtain ⟨b1, b2⟩ := h.pl hj
  have e := h a b hd
  obtain ⟨c1, c2⟩ := fil_at hi (qF_self a b)
  obtain ⟨d1, d2⟩ := fil_at hj (qF_other a b)
  obtain ⟨e1, e2⟩ := fil_at a1 (qF_self a b)
  obtain ⟨f1, f2⟩ := fil_at b1 (qF_other a b)
  rw [e] at c1 c2 d1 d2
  have k1 := cnt_take_inj c1 e1 (by rw [c2, e2, a2])
  have k2 := cnt_take_inj d1 f1 (by rw [d2, f2, b2])
  have k3 := countP_take_lt hi (qF_self a b) hij
  refine Nat.lt_of_not_le fun hle => ?_
  have := countP_take_le (x := y) (q := qF a b) hle
  omega
theorem Tr.symm {x y : List Ins} (h : Tr x y) : Tr y x := fun a b hd => (h a b hd).symm
theorem Tr.onto {x y : List Ins} (h : Tr x y) {p : Nat} (hp : p < y.length) : ∃ k, k < x.length ∧ plF x y k = p := by
  obtain ⟨v, hv⟩ : ∃ v, y[p]? = some v := ⟨_, List.getElem?_eq_getElem hp⟩
  obtain ⟨h1, h2⟩ := h.symm.pl hv
  refine ⟨plF y x p, (List.getElem?_eq_some_iff.1 h1).1, ?_⟩
  obtain ⟨g1, g2⟩ := h.pl h1
  exact cnt_take_inj g1 hv (g2.trans h2)
/-- The relation that both Legal decide, for lists that can be looked at. -/
def legB (l m : List Ins) : Bool :=
  decide (l.length = m.length) && (List.range l.length).all (fun i => decide (plF l m i < m.length)) && (List.range l.length).all fun j => (depRow l j j).all fun i => decide (plF l m i.toNat < plF l m j)
theorem Tr.leg {x y : List Ins} (h : Tr x y) : legB x y = true := by
  unfold legB
  rw [Bool.and_eq_true, Bool.and_eq_true, decide_eq_true_eq, List.all_eq_true, List.all_eq_true]
  refine ⟨⟨h.perm.length_eq, fun i hi => decide_eq_true ?_⟩, fun j hj => List.all_eq_true.2 fun v hv => decide_eq_true ?_⟩
  · have hi : i < x.length := by simpa using hi
    exact (List.getElem?_eq_some_iff.1 (h.pl (List.getElem?_eq_getElem hi)).1).1
  · have hj : j < x.length := by simpa using hj
    obtain ⟨i, hi, rfl, hd⟩ := depRow_mem hv
    have hj' : x[j]? = some x[j] := List.getElem?_eq_getElem hj
    have hi' : x[i]? = some x[i] := List.getElem?_eq_getElem (by omega)
    rw [getD_of hi', getD_of hj'] at hd
    rw [Int.toNat_natCast]
    exact h.ord hi' hj' (.inl hd) hi
/-! ### Neighbours exchanged -/
def swpF (y : List Ins) (k : Nat) : List Ins := (y.set k (y.getD (k + 1) Ins.zero)).set (k + 1) (y.getD k Ins.zero)
theorem swpF_eq (u t : List Ins) (a b : Ins) : swpF (u ++ a :: b :: t) u.length = u ++ b :: a :: t := by
  unfold swpF
  have e1 : (u ++ a :: b :: t).getD (u.length + 1) Ins.zero = b := by rw [List.getD_eq_getElem?_getD, List.getElem?_append_right (by omega), show u.length + 1 - u.length = 1 by omega]; rfl
  have e2 : (u ++ a :: b :: t).getD u.length Ins.zero = a := by rw [List.getD_eq_getElem?_getD, List.getElem?_append_right (Nat.le_refl _), Nat.sub_self]; rfl
  rw [e1, e2, List.set_append_right _ _ (Nat.le_refl _), Nat.sub_self, List.set_append_right _ _ (by omega), show u.length + 1 - u.length = 1 by omega]
  rfl
theorem split2 {y : List Ins} {k : Nat} {a b : Ins} (ha : y[k]? = some a) (hb : y[k + 1]? = some b) : y = y.take k ++ a :: b :: y.drop (k + 2) ∧ (y.take k).length = k := by
  obtain ⟨hk, e1⟩ := List.getElem?_eq_some_iff.1 ha
  obtain ⟨hk1, e2⟩ := List.getElem?_eq_some_iff.1 hb
  refine ⟨?_, by rw [List.length_take]; omega⟩
  conv => lhs; rw [← List.take_append_drop k y, List.drop_eq_getElem_cons hk, List.drop_eq_getElem_cons hk1, e1, e2]
theorem Tr.swap {x y : List Ins} (h : Tr x y) {k : Nat} {a b : Ins} (ha : y[k]? = some a) (hb : y[k + 1]? = some b) (hne : a ≠ b) (hd : depF a b = false) : Tr x (swpF y k) := fun c d hcd => by
  rw [h c d hcd]
  obtain ⟨e, el⟩ := split2 ha hb
  have es : swpF y k = y.take k ++ b :: a :: y.drop (k + 2) := by
    have := swpF_eq (y.take k) (y.drop (k + 2)) a b
    rw [← e, el] at this
    exact this
  rw [es]
  conv => lhs; rw [e]
  rw [List.filter_append, List.filter_append]
  congr 1
  by_cases h1 : qF c d a = true
  · by_cases h2 : qF c d b = true
    · exfalso
      have k1 : a = c ∨ a = d := of_decide_eq_true h1
      have k2 : b = c ∨ b = d := of_decide_eq_true h2
      rcases k1 with rfl | rfl
      · rcases k2 with rfl | rfl
        · exact hne rfl
        · rcases hcd with h | h
          · rw [h] at hd; cases hd
          · exact hne h
      · rcases k2 with rfl | rfl
        · rcases hcd with h | h
          · rw [depF_comm, h] at hd; cases hd
          · exact hne h.symm
        · exact hne rfl
    · rw [List.filter_cons_of_pos h1, List.filter_cons_of_neg h2, List.filter_cons_of_neg h2, List.filter_cons_of_pos h1]
  · rw [List.filter_cons_of_neg h1]
    by_cases h2 : qF c d b = true
    · rw [List.filter_cons_of_pos h2, List.filter_cons_of_pos h2, List.filter_cons_of_neg h1]
    · rw [List.filter_cons_of_neg h2, List.filter_cons_of_neg h2, List.filter_cons_of_neg h1]
/-! ### The greedy order keeps every dependency -/
def untk : List Ins → List Bool → List Ins
  | x :: l, t :: tk => if t then untk l tk else x :: untk l tk
  | _, _ => []
theorem untk_append : ∀ (l1 : List Ins) (t1 : List Bool) (l2 : List Ins) (t2 : List Bool), l1.length = t1.length → untk (l1 ++ l2) (t1 ++ t2) = untk l1 t1 ++ untk l2 t2
  | [], [], _, _, _ => rfl
  | [], _ :: _, _, _, h => by simp at h
  | _ :: _, [], _, _, h => by simp at h
  | x :: l1, t :: t1, l2, t2, h => by
    have ih := untk_append l1 t1 l2 t2 (by simpa using h)
    show (if t then untk (l1 ++ l2) (t1 ++ t2) else x :: untk (l1 ++ l2) (t1 ++ t2)) = (if t then untk l1 t1 else x :: untk l1 t1) ++ untk l2 t2
    cases t <;> simp [ih]
theorem untk_mem : ∀ (l : List Ins) (tk : List Bool) (x : Ins), x ∈ untk l tk → ∃ i : Nat, l[i]? = some x ∧ tk[i]? = some false
  | [], _, _, h => by simp [untk] at h
  | _ :: _, [], _, h => by simp [untk] at h
  | y :: l, t :: tk, x, h => by
    have h : x ∈ (if t then untk l tk else y :: untk l tk) := h
    cases t with
    | true =>
      obtain ⟨i, h1, h2⟩ := untk_mem l tk x (by simpa using h)
      exact ⟨i + 1, by simpa using h1, by simpa using h2⟩
    | false =>
      rcases List.mem_cons.1 (by simpa using h : x ∈ y :: untk l tk) with rfl | h
      · exact ⟨0, rfl, rfl⟩
      · obtain ⟨i, h1, h2⟩ := untk_mem l tk x h
        exact ⟨i + 1, by simpa using h1, by simpa using h2⟩
theorem untk_all : ∀ (l : List Ins), untk l (List.replicate l.length false) = l
  | [] => rfl
  | x :: l => by
    show x :: untk l (List.replicate l.length false) = _
    rw [untk_all l]
theorem untk_none : ∀ (l : List Ins) (tk : List Bool), tk.count false = 0 → untk l tk = []
  | [], _, _ => by simp [untk]
  | _ :: _, [], _ => rfl
  | x :: l, t :: tk, h => by
    cases t with
    | true => exact untk_none l tk (by simpa using h)
    | false => simp at h
theorem const_snoc {x : Ins} : ∀ {l : List Ins}, (∀ y ∈ l, y = x) → l ++ [x] = x :: l
  | [], _ => rfl
  | y :: l, h => by
    have := h y (List.mem_cons_self ..)
    subst this
    rw [List.cons_append, const_snoc fun z hz => h z (List.mem_cons_of_mem _ hz)]
theorem row_dep {l : List Ins} {tk : List Bool} {k i : Nat} (h : freeF l tk k = true) (hi : i < k) (hd : depF (l.getD i Ins.zero) (l.getD k Ins.zero) = true) : tk.getD i false = true := by
  unfold freeF at h
  rw [Bool.and_eq_true] at h
  have := List.all_eq_true.1 h.2 (i : Int) (by
    unfold depRow
    exact List.mem_map.2 ⟨i, List.mem_filter.2 ⟨by simpa using hi, hd⟩, rfl⟩)
  rwa [Int.toNat_natCast] at this
theorem gr_keeps {l : List Ins} {H : List Int} {c d : Ins} (hcd : depF c d = true ∨ c = d) : ∀ r, r ≤ l.length →
    (gr l H r).2.filter (qF c d) ++ (untk l (gr l H r).1).filter (qF c d) = l.filter (qF c d)
  | 0, _ => by
    show ([] : List Ins).filter _ ++ (untk l (List.replicate l.length false)).filter _ = _
    rw [untk_all]; rfl
  | r + 1, hr => by
    have ih := gr_keeps (l := l) (H := H) hcd r (by omega)
    obtain ⟨t1, t2, t3, t4, t5⟩ := gr_inv l H r (by omega)
    obtain ⟨k, hk, hb, hf⟩ := t5 (by omega)
    have hfree : freeF l (gr l H r).1 k = true := by
      rcases bestB_spec l H (tmF (gr l H r).2) (gr l H r).1 l.length with ⟨h5, -⟩ | ⟨k', -, h6, h7⟩
      · rw [hb] at h5
        have := (Prod.mk.inj h5).1
        omega
      · rw [hb] at h6
        have := (Prod.mk.inj h6).1
        have e : k = k' := by omega
        rw [e]; exact h7
    have e : gr l H (r + 1) = ((gr l H r).1.set k true, (gr l H r).2 ++ [l.getD k Ins.zero]) := by
      show grS l H (gr l H r) = _
      unfold grS
      rw [hb, Int.toNat_natCast]
    rw [e]
    generalize (gr l H r).1 = tk at ih t1 hf hfree ⊢
    generalize (gr l H r).2 = o at ih ⊢
    show (o ++ [l.getD k Ins.zero]).filter _ ++ (untk l (tk.set k true)).filter _ = _
    obtain ⟨v, hv⟩ : ∃ v, l[k]? = some v := ⟨_, List.getElem?_eq_getElem hk⟩
    rw [getD_of hv]
    obtain ⟨hk2, ef⟩ := List.getElem?_eq_some_iff.1 hf
    have el : l = l.take k ++ v :: l.drop (k + 1) := by
      obtain ⟨hk3, ev⟩ := List.getElem?_eq_some_iff.1 hv
      conv => lhs; rw [← List.take_append_drop k l, List.drop_eq_getElem_cons hk3, ev]
    have et : tk = tk.take k ++ false :: tk.drop (k + 1) := by
      conv => lhs; rw [← List.take_append_drop k tk, List.drop_eq_getElem_cons hk2, ef]
    have es : tk.set k true = tk.take k ++ true :: tk.drop (k + 1) := by
      have hl : (tk.take k).length = k := by rw [List.length_take]; omega
      conv => lhs; rw [et]
      rw [List.set_append_right _ _ (by omega), hl, Nat.sub_self]; rfl
    have hlen : (l.take k).length = (tk.take k).length := by rw [List.length_take, List.length_take, t1]
    have u1 : untk l tk = untk (l.take k) (tk.take k) ++ v :: untk (l.drop (k + 1)) (tk.drop (k + 1)) := by
      conv => lhs; rw [el, et]
      rw [untk_append _ _ _ _ hlen]; rfl
    have u2 : untk l (tk.set k true) = untk (l.take k) (tk.take k) ++ untk (l.drop (k + 1)) (tk.drop (k + 1)) := by
      rw [es]
      conv => lhs; rw [el]
      rw [untk_append _ _ _ _ hlen]; rfl
    rw [← ih, u1, u2]
    have hpre : qF c d v = true → ∀ y ∈ (untk (l.take k) (tk.take k)).filter (qF c d), y = v := fun hq y hy => by
      obtain ⟨hy1, hy2⟩ := List.mem_filter.1 hy
      obtain ⟨i, g1, g2⟩ := untk_mem _ _ _ hy1
      have hik : i < k := by
        have := (List.getElem?_eq_some_iff.1 g1).1
        rw [List.length_take] at this; omega
      rw [List.getElem?_take, if_pos hik] at g1 g2
      refine Classical.byContradiction fun hne => ?_
      have hdep : depF y v = true := by
        have k1 : v = c ∨ v = d := of_decide_eq_true hq
        have k2 : y = c ∨ y = d := of_decide_eq_true hy2
        rcases hcd with hcd | hcd
        · rcases k1 with rfl | rfl <;> rcases k2 with rfl | rfl
          · exact absurd rfl hne
          · rw [depF_comm]; exact hcd
          · exact hcd
          · exact absurd rfl hne
        · subst hcd
          rcases k1 with rfl | rfl <;> rcases k2 with rfl | rfl <;> exact absurd rfl hne
      have := row_dep hfree hik (by rw [getD_of g1, getD_of hv]; exact hdep)
      rw [List.getD_eq_getElem?_getD, g2] at this
      cases this
    rw [List.filter_append, List.filter_append, List.filter_append, List.append_assoc]
    congr 1
    by_cases hq : qF c d v = true
    · rw [List.filter_cons_of_pos hq, List.filter_cons_of_pos hq]
      have hc := const_snoc (hpre hq)
      generalize List.filter (qF c d) (untk (List.take k l) (List.take k tk)) = L at hc ⊢
      show [v] ++ (L ++ _) = L ++ (v :: _)
      rw [← List.append_assoc, show ([v] ++ L : List Ins) = v :: L from rfl, ← hc, List.append_assoc]; rfl
    · rw [List.filter_cons_of_neg hq, List.filter_cons_of_neg hq]; rfl
theorem Tr.greedy (l : List Ins) : Tr l (grF l) := fun c d hcd => by
  have h := gr_keeps (l := l) (H := htF l) hcd l.length (Nat.le_refl _)
  obtain ⟨-, t2, -⟩ := gr_inv l (htF l) l.length (Nat.le_refl _)
  rw [untk_none _ _ (by rw [t2]; omega)] at h
  rw [← h]
  show _ = (gr l (htF l) l.length).2.filter _
  simp
/-! ### No order has fewer cycles than Lower -/
theorem rdF_le (R : List Int) : ∀ (rs : List Int) (N : Int), N ≤ rdF R N rs
  | [], N => Int.le_refl _
  | s :: rs, N => by
    show N ≤ rdF R (if s < 8 then max N (R.getD s.toNat 0) else N) rs
    have := rdF_le R rs (if s < 8 then max N (R.getD s.toNat 0) else N)
    split at this <;> rename_i h
    · rw [if_pos h]; omega
    · rw [if_neg h]; omega
theorem rdF_mem {R : List Int} {s : Int} (h8 : s < 8) : ∀ {rs : List Int} {N : Int}, s ∈ rs → R.getD s.toNat 0 ≤ rdF R N rs
  | [], _, h => by cases h
  | x :: rs, N, h => by
    show _ ≤ rdF R (if x < 8 then max N (R.getD x.toNat 0) else N) rs
    rcases List.mem_cons.1 h with rfl | h
    · rw [if_pos h8]
      have := rdF_le R rs (max N (R.getD s.toNat 0))
      omega
    · exact rdF_mem h8 h
theorem wrF_len (v : Int) : ∀ (ws R : List Int), (wrF R v ws).length = R.length
  | [], _ => rfl
  | s :: ws, R => by
    show (wrF (if s < 8 then R.set s.toNat v else R) v ws).length = _
    rw [wrF_len v ws]
    split <;> simp
theorem tmF_len (l : List Ins) : (tmF l).2.length = 8 := by
  suffices h : ∀ (l : List Ins) (t : Int × List Int), t.2.length = 8 → (l.foldl tmS t).2.length = 8 from h l _ (by simp)
  intro l
  induction l with
  | nil => exact fun t h => h
  | cons x l ih => exact fun t h => ih _ (by show (wrF _ _ _).length = 8; rw [wrF_len]; exact h)
theorem wrF_other {v a : Int} (ha : 0 ≤ a) : ∀ (ws R : List Int), (∀ s ∈ ws, 0 ≤ s) → a ∉ ws → (wrF R v ws).getD a.toNat 0 = R.getD a.toNat 0
  | [], _, _, _ => rfl
  | s :: ws, R, hn, hm => by
    show (wrF (if s < 8 then R.set s.toNat v else R) v ws).getD a.toNat 0 = _
    rw [wrF_other ha ws _ (fun x hx => hn x (List.mem_cons_of_mem _ hx)) (fun h => hm (List.mem_cons_of_mem _ h))]
    split
    · have h0 := hn s (List.mem_cons_self ..)
      have hne : s.toNat ≠ a.toNat := fun e => hm (by rw [show a = s by omega]; exact List.mem_cons_self ..)
      rw [List.getD_eq_getElem?_getD, List.getElem?_set_ne hne, ← List.getD_eq_getElem?_getD]
    · rfl
/-- The cycle in which the p-th is issued. -/
def isA (y : List Ins) (p : Nat) : Int := issF (tmF (y.take p)) (y.getD p Ins.zero)
theorem tm_succ {y : List Ins} {p : Nat} (h : p < y.length) : tmF (y.take (p + 1)) = (isA y p + 1, wrF (tmF (y.take p)).2 (isA y p + 1 + delayF (y.getD p Ins.zero).op) (y.getD p Ins.zero).wt) := by
  obtain ⟨v, hv⟩ : ∃ v, y[p]? = some v := ⟨_, List.getElem?_eq_getElem h⟩
  rw [take_snocI hv, tmF_snoc]
  unfold isA
  rw [getD_of hv]; rfl
theorem isA_ge (y : List Ins) (p : Nat) : (tmF (y.take p)).1 ≤ isA y p := rdF_le _ _ _
theorem isA_lt {y : List Ins} {p : Nat} : ∀ {q : Nat}, p < q → q ≤ y.length → isA y p + 1 ≤ (tmF (y.take q)).1
  | 0, h, _ => by omega
  | q + 1, h, hq => by
    rw [tm_succ (show q < y.length by omega)]
    show _ ≤ isA y q + 1
    by_cases e : p = q
    · subst e; omega
    · have h1 := isA_lt (y := y) (p := p) (q := q) (by omega) (by omega)
      have h2 := isA_ge y q
      omega
theorem isA_mono {y : List Ins} {p q : Nat} (h : p < q) (hq : q < y.length) : isA y p + 1 ≤ isA y q := by
  have h1 := isA_lt (y := y) h (by omega)
  have h2 := isA_ge y q
  omega
theorem isA_nonneg (y : List Ins) : ∀ p, p ≤ y.length → 0 ≤ (tmF (y.take p)).1
  | 0, _ => by simp [tmF]
  | p + 1, h => by
    rw [tm_succ (show p < y.length by omega)]
    have h1 := isA_nonneg y p (by omega)
    have h2 := isA_ge y p
    show 0 ≤ isA y p + 1
    omega
theorem tm_len {y : List Ins} : ∀ p, p ≤ y.length → (p : Int) ≤ (tmF (y.take p)).1
  | 0, _ => by simp [tmF]
  | p + 1, h => by
    rw [tm_succ (show p < y.length by omega)]
    have h1 := tm_len (y := y) p (by omega)
    have h2 := isA_ge y p
    show ((p + 1 : Nat) : Int) ≤ isA y p + 1
    omega
/-- A register holds its time until it is written again. -/
theorem reg_stays {y : List Ins} {p : Nat} {a : Int} (ha : 0 ≤ a) : ∀ {q : Nat}, p < q → q ≤ y.length → (∀ m, p < m → m < q → a ∉ (y.getD m Ins.zero).wt) →
    (tmF (y.take q)).2.getD a.toNat 0 = (tmF (y.take (p + 1))).2.getD a.toNat 0
  | 0, h, _, _ => by omega
  | q + 1, h, hq, hn => by
    by_cases e : p = q
    · subst e; rfl
    · rw [tm_succ (show q < y.length by omega)]
      show (wrF _ _ _).getD a.toNat 0 = _
      rw [wrF_other ha _ _ (wt_nat _) (hn q (by omega) (by omega))]
      exact reg_stays ha (by omega) (by omega) (fun m h1 h2 => hn m h1 (by omega))
theorem delay_wt {i : Ins} (hf : i.formed = true) (hd : delayF i.op ≠ 0) : i.wt = [i.a] ∧ 0 ≤ i.a ∧ i.a < 8 := by
  have h56 : i.op = 6 ∨ i.op = 5 := by
    unfold delayF at hd
    split at hd
    · exact .inl ‹_›
    · split at hd
      · exact .inr ‹_›
      · exact absurd rfl hd
  have hf2 := hf
  unfold Ins.formed at hf2
  rw [Bool.and_eq_true, Bool.and_eq_true, Bool.and_eq_true] at hf2
  obtain ⟨⟨⟨-, hA⟩, -⟩, -⟩ := hf2
  unfold Ins.wt
  rw [if_pos hf]
  rcases h56 with e | e
  · rw [e] at hA ⊢
    have : (0 ≤ i.a ∧ i.a < 8) := by simpa [kA, fitsK] using hA
    exact ⟨rfl, this⟩
  · rw [e] at hA ⊢
    have : (0 ≤ i.a ∧ i.a < 8) := by simpa [kA, fitsK] using hA
    exact ⟨rfl, this⟩
theorem dep_ww {i j : Ins} {a : Int} (h8 : a < 8) (h1 : a ∈ i.wt) (h2 : a ∈ j.wt) : depF i j = true := by
  unfold depF
  have : i.wt.any (fun v => touchF (sumOp i.op && sumOp j.op) v j.rd j.wt) = true := List.any_eq_true.2 ⟨a, h1, by
    unfold touchF
    have e : (a == 8) = false := by simp; omega
    simp [e, h2]⟩
  rw [this]; simp
theorem dep_wr {i j : Ins} {a : Int} (h8 : a < 8) (h1 : a ∈ i.wt) (h2 : a ∈ j.rd) : depF i j = true := by
  unfold depF
  have : i.wt.any (fun v => touchF (sumOp i.op && sumOp j.op) v j.rd j.wt) = true := List.any_eq_true.2 ⟨a, h1, by
    unfold touchF
    have e : (a == 8) = false := by simp; omega
    simp [e, h2]⟩
  rw [this]; simp
theorem lat_ok {x y : List Ins} (h : Tr x y) (hf : ∀ i ∈ x, i.formed = true) {i j : Nat} (hij : i < j) (hj : j < x.length) (hd : depF (x.getD i Ins.zero) (x.getD j Ins.zero) = true) :
    isA y (plF x y i) + latP x i j ≤ isA y (plF x y j) := by
  obtain ⟨u, hu⟩ : ∃ v, x[i]? = some v := ⟨_, List.getElem?_eq_getElem (by omega)⟩
  obtain ⟨v, hv⟩ : ∃ v, x[j]? = some v := ⟨_, List.getElem?_eq_getElem hj⟩
  rw [getD_of hu, getD_of hv] at hd
  have ho := h.ord hu hv (.inl hd) hij
  obtain ⟨pi, -⟩ := h.pl hu
  obtain ⟨pj, -⟩ := h.pl hv
  have hjl : plF x y j < y.length := (List.getElem?_eq_some_iff.1 pj).1
  have h1 := isA_mono ho hjl
  unfold latP latX
  rw [getD_of hu, getD_of hv]
  split
  · exact h1
  · rename_i hc
    split
    · exact h1
    · rename_i hh
      have hc1 : delayF u.op ≠ 0 := fun e => hc (.inl e)
      have hc2 : u.a ∈ v.rd := by
        refine Classical.byContradiction fun e => hc (.inr ?_)
        simpa using e
      obtain ⟨w1, w2, w3⟩ := delay_wt (hf u (List.mem_of_getElem? hu)) hc1
      have hst := reg_stays (y := y) w2 ho (by omega) (fun m m1 m2 hm => by
        obtain ⟨k, hk, rfl⟩ := h.onto (show m < y.length by omega)
        obtain ⟨z, hz⟩ : ∃ v, x[k]? = some v := ⟨_, List.getElem?_eq_getElem hk⟩
        rw [getD_of (h.pl hz).1] at hm
        have d1 : depF u z = true := dep_ww w3 (by rw [w1]; simp) hm
        have d2 : depF z v = true := dep_wr w3 hm hc2
        have k1 : i < k := Nat.lt_of_not_le fun hle => by
          rcases Nat.lt_or_eq_of_le hle with e | e
          · have := h.ord hz hu (.inl (by rw [depF_comm]; exact d1)) e; omega
          · subst e; omega
        have k2 : k < j := Nat.lt_of_not_le fun hle => by
          rcases Nat.lt_or_eq_of_le hle with e | e
          · have := h.ord hv hz (.inl (by rw [depF_comm]; exact d2)) e; omega
          · subst e; omega
        refine hh ?_
        unfold hitF
        refine List.any_eq_true.2 ⟨k, by simpa using k2, ?_⟩
        rw [getD_of hz]
        simp [k1, hm])
      rw [tm_succ (show plF x y i < y.length by omega), getD_of pi, w1] at hst
      have he : (wrF (tmF (y.take (plF x y i))).2 (isA y (plF x y i) + 1 + delayF u.op) [u.a]).getD u.a.toNat 0 = isA y (plF x y i) + 1 + delayF u.op := by
        show (if u.a < 8 then _ else _ : List Int).getD u.a.toNat 0 = _
        rw [if_pos w3, List.getD_eq_getElem?_getD, List.getElem?_set_self (by rw [tmF_len]; omega)]; rfl
      have hst2 : (tmF (y.take (plF x y j))).2.getD u.a.toNat 0 = isA y (plF x y i) + 1 + delayF u.op := hst.trans he
      have hr := rdF_mem (R := (tmF (y.take (plF x y j))).2) (N := (tmF (y.take (plF x y j))).1) w3 hc2
      have e3 : isA y (plF x y j) = rdF (tmF (y.take (plF x y j))).2 (tmF (y.take (plF x y j))).1 v.rd := by
        unfold isA issF; rw [getD_of pj]
      rw [hst2, ← e3] at hr
      omega
/-- The heights so far are no more than what is left. -/
def HtOk (x y : List Ins) (h : List Int) : Prop := ∀ i, i < x.length → h.getD i 0 ≤ (tmF y).1 - isA y (plF x y i)
theorem getD_set_other {h : List Int} {i j : Nat} {v : Int} (hne : i ≠ j) : (h.set i v).getD j 0 = h.getD j 0 := by
  rw [List.getD_eq_getElem?_getD, List.getElem?_set_ne hne, ← List.getD_eq_getElem?_getD]
theorem getD_set_le {h : List Int} {i : Nat} {v : Int} (hv : 0 ≤ v) : (h.set i v).getD i 0 ≤ v := by
  by_cases hi : i < h.length
  · rw [List.getD_eq_getElem?_getD, List.getElem?_set_self hi]; exact Int.le_refl _
  · rw [List.getD_eq_getElem?_getD, List.getElem?_eq_none (by simp; omega)]; exact hv
theorem HtOk.set {x y : List Ins} {h : List Int} (hh : HtOk x y h) {i : Nat} {v : Int} (h0 : 0 ≤ v) (hv : v ≤ (tmF y).1 - isA y (plF x y i)) : HtOk x y (h.set i v) := fun j hj => by
  by_cases e : i = j
  · subst e
    have := getD_set_le (h := h) (i := i) h0
    omega
  · rw [getD_set_other e]; exact hh j hj
theorem lat_one (l : List Ins) (i j : Nat) : 1 ≤ latP l i j := by
  unfold latP latX
  split
  · decide
  · split
    · decide
    · unfold delayF; split <;> (try split) <;> decide
theorem htI_ok {x y : List Ins} (h : Tr x y) (hf : ∀ i ∈ x, i.formed = true) {j : Nat} (hj : j < x.length) : ∀ (is : List Int) (H : List Int), HtOk x y H → 0 ≤ H.getD j 0 →
    (∀ v ∈ is, ∃ i : Nat, i < j ∧ v = i ∧ depF (x.getD i Ins.zero) (x.getD j Ins.zero) = true) → HtOk x y (htI x j H is)
  | [], _, hH, _, _ => hH
  | v :: is, H, hH, h0, hi => by
    obtain ⟨i, hij, rfl, hd⟩ := hi v (List.mem_cons_self ..)
    have hl := lat_ok h hf hij hj hd
    have h1 := hH i (by omega)
    have h2 := hH j hj
    have h3 := lat_one x i j
    show HtOk x y (htI x j (H.set (i : Int).toNat (max (H.getD (i : Int).toNat 0) (latP x (i : Int).toNat j + H.getD j 0))) is)
    rw [Int.toNat_natCast]
    refine htI_ok h hf hj is _ (hH.set (by omega) (by omega)) ?_ (fun v hv => hi v (List.mem_cons_of_mem _ hv))
    rw [getD_set_other (by omega)]; exact h0
theorem hts_ok {x y : List Ins} (h : Tr x y) (hf : ∀ i ∈ x, i.formed = true) : ∀ k, k ≤ x.length → HtOk x y (hts x x.length k)
  | 0, _ => fun i hi => by
    have e : (List.replicate x.length (0 : Int)).getD i 0 = 0 := by
      rw [List.getD_eq_getElem?_getD, List.getElem?_replicate, if_pos hi]; rfl
    have h1 := (List.getElem?_eq_some_iff.1 (h.pl (List.getElem?_eq_getElem hi)).1).1
    have h2 := isA_lt (y := y) h1 (Nat.le_refl _)
    rw [List.take_length] at h2
    show (List.replicate x.length (0 : Int)).getD i 0 ≤ _
    rw [e]; omega
  | k + 1, hk => by
    have ih := hts_ok h hf k (by omega)
    show HtOk x y (htJ x (x.length - 1 - k) (hts x x.length k))
    have hj : x.length - 1 - k < x.length := by omega
    generalize x.length - 1 - k = j at hj ⊢
    unfold htJ
    have h1 := (List.getElem?_eq_some_iff.1 (h.pl (List.getElem?_eq_getElem hj)).1).1
    have h2 := isA_lt (y := y) h1 (Nat.le_refl _)
    rw [List.take_length] at h2
    have h3 := ih j hj
    refine htI_ok h hf hj _ _ (ih.set (by omega) (by omega)) ?_ (fun v hv => depRow_mem hv)
    by_cases hl : j < (hts x x.length k).length
    · rw [List.getD_eq_getElem?_getD, List.getElem?_set_self hl]; show 0 ≤ max _ _; omega
    · rw [List.getD_eq_getElem?_getD, List.getElem?_eq_none (by simp; omega)]; exact Int.le_refl _
theorem foldl_max_le {B : Int} : ∀ (l : List Int) (a : Int), a ≤ B → (∀ v ∈ l, v ≤ B) → l.foldl max a ≤ B
  | [], _, h, _ => h
  | y :: l, a, h, hl => foldl_max_le l (max a y) (by have := hl y (List.mem_cons_self ..); omega) (fun v hv => hl v (List.mem_cons_of_mem _ hv))
theorem maxF_le {B : Int} (h0 : 0 ≤ B) : ∀ (l : List Int), (∀ v ∈ l, v ≤ B) → maxF l ≤ B
  | [], _ => h0
  | x :: l, h => foldl_max_le l x (h x (List.mem_cons_self ..)) (fun v hv => h v (List.mem_cons_of_mem _ hv))
theorem low_le {x y : List Ins} (h : Tr x y) (hf : ∀ i ∈ x, i.formed = true) (hl : (htF x).length = x.length) : lowF x ≤ (tmF y).1 := by
  have hlen := h.perm.length_eq
  have h1 := tm_len (y := y) y.length (Nat.le_refl _)
  rw [List.take_length] at h1
  unfold lowF
  have h2 : maxF (htF x) ≤ (tmF y).1 := maxF_le (by omega) _ (fun v hv => by
    obtain ⟨i, hi, e⟩ := List.mem_iff_getElem.1 hv
    have hk := hts_ok h hf x.length (Nat.le_refl _) i (by omega)
    have e2 : (hts x x.length x.length).getD i 0 = v := by
      show (htF x).getD i 0 = v
      rw [List.getD_eq_getElem?_getD, List.getElem?_eq_getElem hi, e]; rfl
    rw [e2] at hk
    have hp := (List.getElem?_eq_some_iff.1 (h.pl (List.getElem?_eq_getElem (show i < x.length by omega))).1).1
    have h3 := isA_nonneg y (plF x y i) (by omega)
    have h4 := isA_ge y (plF x y i)
    omega)
  omega
end Go.Proofs.YtpmbgcfnehplaaaDoor
end
