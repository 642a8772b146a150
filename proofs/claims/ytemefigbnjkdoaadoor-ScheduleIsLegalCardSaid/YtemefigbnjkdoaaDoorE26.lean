/- Legal of package schedule: the plain law, the places of each instruction, the walk. Printed by gen_e26.py. -/
import Derived.Test.YtemefigbnjkdoaaDoorE25
import Derived.Test.YtemefigbnjkdoaaDoorE18
import Derived.Test.YtemefigbnjkdoaaDoorPy
import Derived.Test.YtemefigbnjkdoaaDoorPs
import Derived.Carry
import Derived.Test.YtemefigbnjkdoaaDoorPw
set_option linter.unusedVariables false
set_option linter.unusedSimpArgs false
namespace Go.Proofs.YtemefigbnjkdoaaDoor
open Go.RowKit

/-! ### The places of each instruction -/
def posK (m : List Ins) (k : Nat) (v : Ins) : List Int := ((List.range k).filter fun p => decide (m[p]? = some v)).map fun (p : Nat) => (p : Int)
theorem posK_zero (m : List Ins) (v : Ins) : posK m 0 v = [] := rfl
theorem posK_succ {m : List Ins} {k : Nat} {i : Ins} (h : m[k]? = some i) (v : Ins) : posK m (k + 1) v = if v = i then posK m k v ++ [(k : Int)] else posK m k v := by
  unfold posK
  rw [List.range_succ, List.filter_append, List.map_append]
  by_cases e : v = i
  · subst e; simp [h]
  · rw [if_neg e]
    have : ¬ i = v := fun e2 => e e2.symm
    simp [h, this]
theorem posK_len (m : List Ins) (k : Nat) (v : Ins) : (posK m k v).length ≤ k := by
  unfold posK
  rw [List.length_map]
  have := List.length_filter_le (fun p => decide (m[p]? = some v)) (List.range k)
  simpa using this
theorem posK_full (m : List Ins) (v : Ins) : posK m m.length v = (posF m v).map fun (p : Nat) => (p : Int) := rfl
/-- What is left of the places of i when the first k of l have taken theirs. -/
def leftK (l m : List Ins) (k : Nat) (i : Ins) : List Int := (posK m m.length i).drop ((l.take k).count i)
theorem leftK_zero (l m : List Ins) (i : Ins) : leftK l m 0 i = posK m m.length i := by simp [leftK]
theorem leftK_other {l m : List Ins} {k : Nat} {i j : Ins} (h : l[k]? = some i) (hne : j ≠ i) : leftK l m (k + 1) j = leftK l m k j := by
  unfold leftK
  have : ¬ i = j := fun e => hne e.symm
  rw [take_snocI h, List.count_append]
  simp [this]
theorem leftK_nil {l m : List Ins} {k : Nat} {i : Ins} (h : l[k]? = some i) (he : leftK l m k i = []) : plF l m k = m.length := by
  unfold leftK at he
  have := List.drop_eq_nil_iff.1 he
  rw [posK_full, List.length_map, posF_len] at this
  exact plF_none h this
theorem leftK_cons {l m : List Ins} {k : Nat} {i : Ins} {x : Int} {r : List Int} (h : l[k]? = some i) (he : leftK l m k i = x :: r) : x = (plF l m k : Int) ∧ leftK l m (k + 1) i = r := by
  unfold leftK at he ⊢
  have hx : (posK m m.length i)[(l.take k).count i]? = some x := by
    have := congrArg (·[0]?) he
    simp at this
    exact this
  constructor
  · rw [posK_full, List.getElem?_map] at hx
    unfold plF
    rw [getD_of h, List.getD_eq_getElem?_getD]
    cases e : (posF m i)[(l.take k).count i]? with
    | none => rw [e] at hx; cases hx
    | some p => rw [e] at hx; injection hx with hx; exact hx.symm
  · rw [take_snocI h, List.count_append]
    have : List.count i [i] = 1 := by simp
    rw [this, ← List.drop_drop, he]; rfl
theorem leftK_len (l m : List Ins) (k : Nat) (i : Ins) : (leftK l m k i).length ≤ m.length := by
  unfold leftK
  rw [List.length_drop]
  have := posK_len m m.length i
  omega
def atL (l m : List Ins) (n k : Nat) : List Int := (List.range n).map fun i => if i < k then (plF l m i : Int) else 0
theorem atL_length (l m : List Ins) (n k : Nat) : (atL l m n k).length = n := by simp [atL]
theorem atL_zero (l m : List Ins) (n : Nat) : atL l m n 0 = List.replicate n 0 := by
  apply List.ext_getElem?
  intro i
  unfold atL
  rw [List.getElem?_map, List.getElem?_replicate]
  by_cases h : i < n
  · rw [List.getElem?_range h, if_pos h]; rfl
  · rw [List.getElem?_eq_none (by simpa using h), if_neg h]; rfl
theorem atL_set (l m : List Ins) (n k : Nat) : (atL l m n k).set k (plF l m k : Int) = atL l m n (k + 1) := by
  apply List.ext_getElem?
  intro i
  by_cases h : i < n
  · have hr : ∀ t, (atL l m n t)[i]? = some (if i < t then (plF l m i : Int) else 0) := fun t => by
      unfold atL; rw [List.getElem?_map, List.getElem?_range h]; rfl
    rw [hr]
    by_cases e : k = i
    · subst e
      rw [List.getElem?_set_self (by rw [atL_length]; exact h), if_pos (by omega)]
    · rw [List.getElem?_set_ne e, hr]
      by_cases h2 : i < k
      · rw [if_pos h2, if_pos (by omega)]
      · rw [if_neg h2, if_neg (by omega)]
  · rw [List.getElem?_eq_none (by rw [List.length_set, atL_length]; omega), List.getElem?_eq_none (by rw [atL_length]; omega)]
theorem atL_at {l m : List Ins} {n i : Nat} (h : i < n) : (atL l m n n)[i]? = some (plF l m i : Int) := by
  unfold atL; rw [List.getElem?_map, List.getElem?_range h]
  show some (if i < n then _ else _) = _
  rw [if_pos h]
theorem plF_le (l m : List Ins) (i : Nat) : plF l m i ≤ m.length := by
  unfold plF
  rw [List.getD_eq_getElem?_getD]
  cases e : (posF m (l.getD i Ins.zero))[(l.take i).count (l.getD i Ins.zero)]? with
  | none => exact Nat.le_refl _
  | some p => exact Nat.le_of_lt (posF_of e).1
/-- The relation that both Legal decide. -/
def legR (l m : List Ins) : Bool := fineF l && fineF m && legB l m
def legE (l m : List Ins) : Int := if fineF l && fineF m then 0 else 21
theorem leg_len {l m : List Ins} (h : l.length ≠ m.length) : legB l m = false := by unfold legB; rw [decide_eq_false h]; rfl
theorem leg_short {l m : List Ins} {k : Nat} (hk : k < l.length) (h : plF l m k = m.length) : legB l m = false := by
  unfold legB
  have : (List.range l.length).all (fun i => decide (plF l m i < m.length)) = false := by
    rw [Bool.eq_false_iff]
    intro hc
    have := of_decide_eq_true (List.all_eq_true.1 hc k (by simpa using hk))
    omega
  rw [this, Bool.and_false, Bool.false_and]
/-- All that j waits for stands before it. -/
def okR (l m : List Ins) (j : Nat) (v : Int) : Bool := decide (plF l m v.toNat ≤ plF l m j)
theorem leg_bad {l m : List Ins} {j : Nat} {v : Int} (hj : j < l.length) (hv : v ∈ depRow l j j) (h : okR l m j v = false) : legB l m = false := by
  unfold legB
  have : ((List.range l.length).all fun j => (depRow l j j).all fun i => decide (plF l m i.toNat < plF l m j)) = false := by
    rw [Bool.eq_false_iff]
    intro hc
    have h1 := of_decide_eq_true (List.all_eq_true.1 (List.all_eq_true.1 hc j (by simpa using hj)) v hv)
    have h2 := of_decide_eq_false h
    omega
  rw [this, Bool.and_false]
theorem leg_good {l m : List Ins} (h1 : l.length = m.length) (h2 : ∀ k, k < l.length → plF l m k < m.length) (h3 : ((List.range l.length).all fun j => (depRow l j j).all (okR l m j)) = true) : legB l m = true := by
  unfold legB
  rw [Bool.and_eq_true, Bool.and_eq_true, decide_eq_true_eq]
  refine ⟨⟨h1, List.all_eq_true.2 fun i hi => decide_eq_true (h2 i (by simpa using hi))⟩, List.all_eq_true.2 fun j hj => List.all_eq_true.2 fun v hv => decide_eq_true ?_⟩
  have h4 := of_decide_eq_true (List.all_eq_true.1 (List.all_eq_true.1 h3 j hj) v hv)
  obtain ⟨i, hi, rfl, -⟩ := depRow_mem hv
  have hj : j < l.length := by simpa using hj
  rw [Int.toNat_natCast] at h4 ⊢
  refine Nat.lt_of_le_of_ne h4 (fun e => ?_)
  have := plF_inj (by omega) hj (h2 i (by omega)) e
  omega
theorem and_all {p : Nat → Bool} {k : Nat} (h1 : (List.range k).all p = true) (h2 : p k = true) : (List.range (k + 1)).all p = true := by
  rw [List.range_succ, List.all_append, h1]; simp [h2]
theorem MapI.lt {w : World} {b : Nat} {g : Ins → Value} (h : MapI w b g) : b < w.heap.size := by
  obtain ⟨es, clock, hE, -⟩ := h
  exact hE.size
theorem MapI.grow {w w' : World} {b : Nat} {g : Ins → Value} (h : MapI w b g) (hb : Below w.heap.size w w') : MapI w' b g := h.block (hb.block b h.lt)
theorem MapI.alloc {w : World} {b : Nat} {g : Ins → Value} (h : MapI w b g) (o : Obj) : MapI (w.alloc o) b g := h.grow ((Below.refl _ _).alloc (Nat.le_refl _) o)
theorem MapI.store {w : World} {b gT k : Nat} {u : Value} {g : Ins → Value} (h : MapI w b g) (hn : b ≠ gT) : MapI (w.setCell ⟨gT, k, none⟩ u) b g := h.block (Below.heap_setCell w _ u b (by show b ≠ gT; exact hn))
/-- The values of the map are rows of the call's own, no two in one block. -/
structure OwnM (B : Nat) (w : World) (g : Ins → Value) (f : Ins → List Int) : Prop where
  own : ∀ i, Own B w (g i) (f i)
  ne : ∀ i j q, i ≠ j → (g i).ownBlock = some q → (g j).ownBlock ≠ some q
theorem OwnM.new {B : Nat} {w : World} {m : List Ins} : OwnM B w (fun _ => .slice none 0 0) (posK m 0) := ⟨fun _ => Own.nil, fun _ _ _ _ h => by cases h⟩
theorem OwnM.grow {B : Nat} {w w' : World} {g : Ins → Value} {f : Ins → List Int} (h : OwnM B w g f) (hb : Below w.heap.size w w') : OwnM B w' g f := ⟨fun i => (h.own i).grow hb, h.ne⟩
theorem Own.past {B b : Nat} {w w' : World} {v : Value} {l : List Int} (h : Own B w v l) (hg : w.grownBy w' (some b)) (hb : b < B) : Own B w' v l :=
  ⟨h.1.kept hg (.inr (fun e => by have := (h.1.lt b e).1; omega)), h.2⟩
theorem OwnM.past {B b : Nat} {w w' : World} {g : Ins → Value} {f : Ins → List Int} (h : OwnM B w g f) (hg : w.grownBy w' (some b)) (hb : b < B) : OwnM B w' g f := ⟨fun i => (h.own i).past hg hb, h.ne⟩
theorem OwnM.step {B b k : Nat} {w4 w5 w6 : World} {g : Ins → Value} {m : List Ins} {im : Ins} {v : Value} (h : OwnM B w4 g (posK m k)) (hm : m[k]? = some im) (hg5 : w4.grownBy w5 (g im).ownBlock) (hown : Own B w5 v (posK m k im ++ [(k : Int)]))
    (hob : v.ownBlock = (g im).ownBlock ∨ v.ownBlock = some w4.heap.size) (hg6 : w5.grownBy w6 (some b)) (hb : b < B) : OwnM B w6 (updI g im v) (posK m (k + 1)) := by
  refine ⟨fun i => ?_, fun i j q hij hi hj => ?_⟩
  · rw [posK_succ hm]
    by_cases e : i = im
    · subst e
      rw [updI_same, if_pos rfl]
      exact hown.past hg6 hb
    · rw [updI_other _ e, if_neg e]
      have h1 := h.own i
      have h2 : (g i).ownBlock = none ∨ (g i).ownBlock ≠ (g im).ownBlock := by
        cases e1 : (g i).ownBlock with
        | none => exact .inl rfl
        | some q => exact .inr fun e2 => h.ne i im q e e1 e2.symm
      exact Own.past ⟨h1.1.kept hg5 h2, h1.2⟩ hg6 hb
  · by_cases e1 : i = im
    · subst e1
      rw [updI_same] at hi
      rw [updI_other _ (fun e => hij e.symm)] at hj
      rcases hob with e | e
      · exact h.ne i j q hij (e ▸ hi) hj
      · rw [e] at hi
        injection hi with hi
        have := ((h.own j).1.lt q hj).2
        omega
    · rw [updI_other _ e1] at hi
      by_cases e2 : j = im
      · subst e2
        rw [updI_same] at hj
        rcases hob with e | e
        · exact h.ne i j q hij hi (e ▸ hj)
        · rw [e] at hj
          injection hj with hj
          have := ((h.own i).1.lt q hi).2
          omega
      · rw [updI_other _ e2] at hj
        exact h.ne i j q hij hi hj
/-- The values of the map read so in the world W. -/
def SlM (W : World) (g : Ins → Value) (f : Ins → List Int) : Prop := ∀ i, ∃ A c, g i = .slice A (f i).length c ∧ (f i).length ≤ c ∧ Ints W A (f i)
theorem OwnM.sl {B : Nat} {w : World} {g : Ins → Value} {f : Ins → List Int} (h : OwnM B w g f) : SlM w g f := fun i => by
  obtain ⟨A, c, e, hc, hi⟩ := (h.own i).form
  exact ⟨A, c, e, hc, hi⟩
theorem wp_lookV {ops : Array Oper} {rest : List Oper} {o : Oper} {a : Act} {Q : Exit → Act → World → Prop} {w : World} {b : Nat} {g : Ins → Value} {i : Ins} {v : Value} (hg : o.guard = none) (m x : Operand) (ho : o.op = .lookup 68 m x false) (hm : a.eval m = .map (some b)) (hx : a.eval x = i.v) (h : MapI w b g) (hi : i.ok) (hv : g i = v)
    (hK : wpList Tryd.prog ops Q rest (a.put o.dst v) w) : wpList Tryd.prog ops Q (o :: rest) a w := by
  subst hv; exact wp_look hg m x ho hm hx h hi hK
theorem grown_past2 {a w w' : World} {b gT : Nat} (h : a.grownBy w (some b)) (h2 : w.grownBy w' (some gT)) (hr : a.heap.size ≤ gT) : a.grownBy w' (some b) :=
  ⟨h2.os.trans h.os, h2.tape.trans h.tape, h2.output.trans h.output, Nat.le_trans h.size h2.size, fun k hk hn => (h2.block k (Nat.lt_of_lt_of_le hk h.size) (fun e => by injection e with e; omega)).trans (h.block k hk hn)⟩
theorem grown_same {a w w' : World} {b : Nat} (h : a.grownBy w (some b)) (h2 : w.grownBy w' (some b)) : a.grownBy w' (some b) :=
  ⟨h2.os.trans h.os, h2.tape.trans h.tape, h2.output.trans h.output, Nat.le_trans h.size h2.size, fun k hk hn => (h2.block k (Nat.lt_of_lt_of_le hk h.size) hn).trans (h.block k hk hn)⟩
theorem Own.past2 {B b : Nat} {w w' : World} {v : Value} {l : List Int} (h : Own B w v l) (hg : w.grownBy w' (some b)) (hb : b < B) : Own B w' v l := h.past hg hb
/-- What is read of the map's slices is not in the map's own block. -/
theorem ints_notmap {W w : World} {b : Nat} {A : Option Addr} {l : List Int} {g : Ins → Value} (h : Ints W A l) (hM : MapI W b g) (hg : W.grownBy w (some b)) : Ints w A l := by
  refine ints_kept h hg fun hl ad ha => ?_
  subst ha
  intro e
  injection e with e
  obtain ⟨es, clock, hE, -⟩ := hM
  obtain ⟨x, r, rfl⟩ := List.exists_cons_of_ne_nil hl
  obtain ⟨a2, y, ea, -, -, hc, -, -⟩ := h.at_ (k := 0) (by simp)
  injection ea with ea
  subst ea
  have hb := hE.blk
  rw [← e] at hb
  have : W.cell? (ad.add 0) = none := by
    unfold World.cell?
    rw [block_add, hb]
  rw [this] at hc
  cases hc
/-- What holds when a round of the loop begins that lists the places. -/
def lgR1 (n b : Nat) (w2 : World) (m : List Ins) (x : Value) (wr : World) : Prop :=
  ∃ (k : Nat) (g : Ins → Value), x = .int .i64 k ∧ k ≤ n ∧ Hid (MapI wr b g) ∧ Hid (OwnM (b + 1) wr g (posK m k)) ∧ Hid (Below w2.heap.size w2 wr)
/-- And of the one that takes them. -/
def lgR2 (n b gT : Nat) (W1 : World) (l m : List Ins) (x : Value) (wr : World) : Prop :=
  ∃ (k : Nat) (g : Ins → Value), x = .int .i64 k ∧ k ≤ n ∧ Hid (MapI wr b g) ∧ Hid (SlM W1 g (leftK l m k)) ∧ Hid (W1.grownBy wr (some b)) ∧ Hid (Own gT wr (.slice (some ⟨gT, 0, none⟩) n n) (atL l m n k)) ∧ Hid (∀ j, j < k → plF l m j < n)
def lgF (b : Nat) (i : Ins) (sv : Value) (W1 : World) (r : List Int) (c : Nat) : Nat → Value → World → Prop
  | 0, v, _ => v = .map (some b)
  | 1, v, _ => v = i.v
  | 2, v, _ => v = sv
  | 3, v, _ => ∃ A, v = .slice A r.length c ∧ Ints W1 A r
  | _, _, _ => True
theorem lgF_keep {b : Nat} {i : Ins} {sv : Value} {W1 : World} {r : List Int} {c : Nat} {w w' : World} : ∀ j v, lgF b i sv W1 r c j v w → lgF b i sv W1 r c j v w'
  | 0, _, e => e | 1, _, e => e | 2, _, e => e | 3, _, e => e
  | _ + 4, _, _ => trivial
set_option maxRecDepth 100000 in
set_option maxHeartbeats 16000000 in
theorem sc_Legal (A B : Option Addr) (n c n2 d : Nat) (l m : List Ins) (w : World) (hf : FormsAt w) (h : InsAt w A l) (h2 : InsAt w B m) (hn : l.length = n) (hn2 : m.length = n2) (h9 : n ≤ 9223372036854775807) (h92 : n2 ≤ 9223372036854775807) :
    Calls Tryd.prog 17 #[.slice A n c, .slice B n2 d] w fun e w' => e = .returned (.tuple #[.bool (legR l m), .int .i64 (legE l m)]) ∧ Below w.heap.size w w' := by
  have CD := Lib.hid (sc_Depends A n c l w hf h hn h9)
  by_cases hfl : fineF l = true
  · have e1 : depD l = depsF l := by unfold depD; rw [if_pos hfl]
    have e2 : depE l = 0 := by unfold depE; rw [if_pos hfl]
    have e4 : (depsF l).length = n := by unfold depsF; rw [depT_length, hn]
    rw [e1, e2] at CD
    have CU : Hid (∀ w1, Below w.heap.size w w1 → Calls Tryd.prog 22 #[.slice B n2 d] w1 (RetUses w1 m)) := fun w1 hb => sc_uses B n2 d m w1 (hf.grow hb) (h2.grow hb) hn2 h92
    by_cases hfm : fineF m = true
    · have e5 : depE m = 0 := by unfold depE; rw [if_pos hfm]
      have HE5 := Lib.hid e5
      have HE4 := Lib.hid e4
      have HFM := Lib.hid hfm
      have hr : legR l m = legB l m := by unfold legR; rw [hfl, hfm]; rfl
      have he : legE l m = 0 := by unfold legE; rw [hfl, hfm]; rfl
      rw [hr, he]
      have HFL := Lib.hid hfl
      have HN := Lib.hid hn
      have HN2 := Lib.hid hn2
      have hn512 : n ≤ 512 := by have := fineF_len hfl; omega
      have hm512 : n2 ≤ 512 := by have := fineF_len hfm; omega
      by_cases hnn : n = n2
      · subst hnn
        have HI := Lib.hid h
        have HJ := Lib.hid h2
        clear h h2 hf hn hn2 hfl hfm h92 e1 e2 e4 e5 hr he hm512
        have CU2 : Hid (∀ w1, Below w.heap.size w w1 → Calls Tryd.prog 22 #[.slice B n d] w1 fun e w' => (∃ A k c, e = .returned (.tuple #[.slice A k c, .int .i64 0])) ∧ Below w1.heap.size w1 w') := fun w1 hb => by
          refine (CU.out w1 hb).mono fun e w' hr => ?_
          obtain ⟨⟨UA, uc, he, -⟩, hb2⟩ := hr
          rw [HE5.out] at he
          exact ⟨⟨UA, _, uc, he⟩, hb2⟩
        have hmm := @run_makeMap Tryd.prog
        have HAT : Hid (∀ j, j < n → (depsF l)[j]? = some (depRow l j j)) := fun j hj => by
          unfold depsF; rw [HN.out, depT_at hj, if_pos hj]
        clear CU
        go_enter Tryd.func17, Tryd.ntmps17
        go_upto_region 4 with (go_at_call 7; (with_reducible refine CD.out.mono ?_); rintro e1 w1 ⟨DA, dc, rfl, hd, hb1⟩)
        rw [HE4.out]
        go_upto_region 9 with (go_at_call 22; (with_reducible refine (CU2.out _ hb1).mono ?_); rintro e1 w2 ⟨⟨UA, uk, uc, rfl⟩, hb2⟩)
        have HB0 := Lib.hid (below_then hb1 hb2)
        have HD := Lib.hid (hd.grow hb2)
        have HIl := Lib.hid (HI.out.grow HB0.out)
        have HIm := Lib.hid (HJ.out.grow HB0.out)
        clear hd hb1 hb2 CD CU2 HI HJ HE4 HE5 HFM HFL
        go_upto_region 11 with fail
        clear hmm
        have hM3 : MapI (w2.alloc (.map #[] 0)) w2.heap.size (fun _ => .slice none 0 0) := MapI.new (heap_alloc_new w2 _)
        have hB3 : Below w2.heap.size w2 (w2.alloc (.map #[] 0)) := (Below.refl _ _).alloc (Nat.le_refl _) _
        obtain ⟨b, hb⟩ : ∃ b, w2.heap.size = b := ⟨_, rfl⟩
        have HB := Lib.hid hb
        rw [hb] at hM3 ⊢
        generalize w2.alloc (.map #[] 0) = w3 at hM3 hB3 ⊢
        have HM3 := Lib.hid hM3
        have HB3 := Lib.hid hB3
        clear hb hM3 hB3
        go_loopw [43] (fun x wr => lgR1 n b w2 m x wr) (fun x _ => n - (intOf x).toNat)
        case atStart => exact ⟨0, _, rfl, Nat.zero_le _, HM3, OwnM.new, HB3⟩
        case round =>
          obtain ⟨k, g, rfl, hk, HM, HO, HW⟩ := hrel
          by_cases hlt : k < n
          · obtain ⟨im, him⟩ : ∃ x, m[k]? = some x := ⟨_, List.getElem?_eq_getElem (by rw [HN2.out]; exact hlt)⟩
            obtain ⟨ad, rfl, hs, hbk, hir, oki⟩ := (HIm.out.grow HW.out) k im him
            have HIM := Lib.hid him
            have HIS := Lib.hid hs
            have HIR := Lib.hid hir
            have HOK := Lib.hid oki
            have HBN : Hid (Box (wr.alloc (.cells #[.int .i64 0, .int .i64 0, .int .i64 0, .int .i64 0] 50)) wr.heap.size Ins.zero.cells) := Lib.hid (Box.new rfl)
            have q1 : (0 : Int) ≤ (k : Int) := by omega
            have q2 : (k : Int) < (n : Int) := by omega
            have wk : IntKind.i64.wrap ((k : Int) + 1) = ((k + 1 : Nat) : Int) := (IntWalk.i64_in _ (by omega)).trans (by omega)
            clear him hs hbk hir oki
            go_upto_region 13 with (first
              | ((with_reducible show wpList _ _ _ (Oper.mk (some 47) (.load _ _) _ _ _ _ :: _) _ _); refine ld_insA HIS.out HIR.out rfl _ rfl rfl ?_)
              | ((with_reducible show wpList _ _ _ (Oper.mk none (.store 50 _ _) _ _ _ _ :: _) _ _); refine st_ins (j := im) HBN.out rfl _ _ rfl rfl rfl ?_; intro w4 hb4 hg4))
            have hw4 : Below wr.heap.size wr w4 := ((Below.refl wr.heap.size wr).alloc (Nat.le_refl _) _).grown hg4 (by simp) (fun j e => by injection e with e; omega)
            have HB4 := Lib.hid hb4
            have HM4 := Lib.hid (HM.out.grow hw4)
            have HO4 := Lib.hid (HO.out.grow hw4)
            have HW4 := Lib.hid (below_then HW.out hw4)
            have hbl := HM4.out.lt
            have hIk : I64 (k : Int) := I64_nat (by omega)
            have HIK := Lib.hid hIk
            have hpl := posK_len m k im
            clear hb4 hg4 hw4 HBN HIS HIR hIk
            go_upto_region 14 with (first
              | ((with_reducible show wpList _ _ _ (Oper.mk (some 49) (.load _ _) _ _ _ _ :: _) _ _); refine ld_ins HB4.out rfl _ rfl rfl ?_)
              | ((with_reducible show wpList _ _ _ (Oper.mk (some 53) _ _ _ _ _ :: _) _ _); refine wp_entry rfl _ _ rfl rfl rfl (HM4.out.alloc _) HOK.out ?_; intro st w6 hE6 hg6; have hO6 := (HO4.out.grow ((Below.refl w4.heap.size w4).alloc (Nat.le_refl _) (.cells #[.int .i64 (k : Int)] 3))).past hg6 (Nat.lt_succ_self b); have hI6 := ints_kept (lit_one (w := w4) (t := 3) HIK.out) hg6 (fun _ a ea => by injection ea with ea; subst ea; intro e; injection e with e; have e : w4.heap.size = b := e; omega); have hz6 : b + 1 ≤ w6.heap.size := Nat.le_trans (by simp; omega) hg6.size)
              | ((with_reducible show wpList _ _ _ (Oper.mk (some 54) _ _ _ _ _ :: _) _ _); refine app_ints w6 rfl _ _ rfl (b + 1) (v := g im) (m := [(k : Int)]) rfl rfl (hO6.own im) hI6 (by show _ + 1 ≤ _; omega) hz6 ?_; intro v7 w7 hown7 hg7 hob7; have hE7 := hE6.block (hg7.block b (by omega) (fun e => by have := ((hO6.own im).1.lt b e.symm).1; omega)))
              | ((with_reducible show wpList _ _ _ (Oper.mk none (.entryStore _ _ _ _) _ _ _ _ :: _) _ _); refine wp_estore rfl _ _ _ rfl rfl rfl rfl hE7 ?_; intro w8 hM8 hg8))
            have hO8 := hO6.step HIM.out hg7 hown7 hob7 hg8 (Nat.lt_succ_self b)
            have hW8 : Below w2.heap.size w2 w8 := by
              have h5 := below_then HW4.out ((Below.refl w4.heap.size w4).alloc (Nat.le_refl _) (.cells #[.int .i64 (k : Int)] 3))
              have hbb := HB.out
              have h6 := h5.grown hg6 h5.size (fun j e => by injection e with e; omega)
              have h7 := h6.grown hg7 h6.size (fun j e => by have := ((hO6.own im).1.lt j e).1; omega)
              exact h7.grown hg8 h7.size (fun j e => by injection e with e; omega)
            have HO8 := Lib.hid hO8
            have HM8 := Lib.hid hM8
            have HW8 := Lib.hid hW8
            clear hO8 hM8 hW8 hE6 hE7 hO6 hI6 hg6 hg7 hg8 hown7 hob7
            go_wp2_with fail
            go_roundw
            case rel => exact ⟨k + 1, _, rfl, by omega, HM8, HO8, HW8⟩
            case measure => simp [intOf]; omega
          · obtain rfl : k = n := by omega
            have hlo : ¬ (k : Int) < (k : Int) := by omega
            clear HM3 HB3
            have HS : Hid (SlM wr g (leftK l m 0)) := by
              have h1 := HO.out.sl
              intro i
              obtain ⟨A', c', e', h2, h3⟩ := h1 i
              rw [leftK_zero, HN2.out]
              exact ⟨A', c', e', h2, h3⟩
            have hgT : ∃ q, wr.heap.size = q := ⟨_, rfl⟩
            obtain ⟨gT, hgT⟩ := hgT
            have HGT := Lib.hid hgT
            have hbT : b < gT := by rw [← hgT]; exact HM.out.lt
            clear hgT
            go_upto_region 16 with ((with_reducible show wpList _ _ _ (Oper.mk (some 59) _ _ _ _ _ :: _) _ _); refine mk_int rfl _ _ rfl wr.heap.size k rfl rfl rfl (by omega) (Nat.le_refl _) ?_; intro w9 ho9 hb9)
            rw [HGT.out] at ho9 ⊢
            have HO9 : Hid (Own gT w9 (.slice (some ⟨gT, 0, none⟩) k k) (atL l m k 0)) := by rw [atL_zero]; exact Lib.hid ho9
            have HM9 := Lib.hid (HM.out.grow hb9)
            have HG9 : Hid (wr.grownBy w9 (some b)) := grown_below (grown_refl wr (some b)) hb9
            obtain ⟨W1, rfl⟩ : ∃ W : World, W = wr := ⟨_, rfl⟩
            clear ho9 hb9
            go_upto_region 17 with fail
            go_loopw [62] (fun x wr => lgR2 k b gT W1 l m x wr) (fun x _ => k - (intOf x).toNat)
            case atStart => exact ⟨0, g, rfl, Nat.zero_le _, HM9, HS, HG9, HO9, fun j hj => absurd hj (Nat.not_lt_zero j)⟩
            case round =>
              obtain ⟨t, g2, rfl, ht, HM2, HS2, HG2, HO2, HP2⟩ := hrel
              have hW2 : Below w2.heap.size w2 wr := HW.out.grown HG2.out HW.out.size (fun j e => by injection e with e; have := HB.out; omega)
              have HW2 := Lib.hid hW2
              clear hW2
              by_cases hlt : t < k
              · obtain ⟨il, hil⟩ : ∃ x, l[t]? = some x := ⟨_, List.getElem?_eq_getElem (by rw [HN.out]; exact hlt)⟩
                obtain ⟨ad, rfl, hs, hbk, hir, oki⟩ := (HIl.out.grow HW2.out) t il hil
                have HIL := Lib.hid hil
                have HIS := Lib.hid hs
                have HIR := Lib.hid hir
                have HOK := Lib.hid oki
                have HBN : Hid (Box (wr.alloc (.cells #[.int .i64 0, .int .i64 0, .int .i64 0, .int .i64 0] 50)) wr.heap.size Ins.zero.cells) := Lib.hid (Box.new rfl)
                obtain ⟨A2, cc, hge, hcc, hIA⟩ := HS2.out il
                obtain ⟨L2, hL2⟩ : ∃ x, leftK l m t il = x := ⟨_, rfl⟩
                rw [hL2] at hge hcc hIA
                have HL2 := Lib.hid hL2
                have HGE := Lib.hid hge
                have HIA := Lib.hid hIA
                have hll := leftK_len l m t il
                rw [hL2, HN2.out] at hll
                have q1 : (0 : Int) ≤ (t : Int) := by omega
                have q2 : (t : Int) < (k : Int) := by omega
                have wk : IntKind.i64.wrap ((t : Int) + 1) = ((t + 1 : Nat) : Int) := (IntWalk.i64_in _ (by omega)).trans (by omega)
                clear hil hs hbk hir oki hge hL2 hIA
                go_upto_region 19 with (first
                  | ((with_reducible show wpList _ _ _ (Oper.mk (some 66) (.load _ _) _ _ _ _ :: _) _ _); refine ld_insA HIS.out HIR.out rfl _ rfl rfl ?_)
                  | ((with_reducible show wpList _ _ _ (Oper.mk none (.store 50 _ _) _ _ _ _ :: _) _ _); refine st_ins (j := il) HBN.out rfl _ _ rfl rfl rfl ?_; intro w4 hb4 hg4))
                have hw4 : Below wr.heap.size wr w4 := ((Below.refl wr.heap.size wr).alloc (Nat.le_refl _) _).grown hg4 (by simp) (fun j e => by injection e with e; omega)
                obtain ⟨gx, hgx⟩ : ∃ q, wr.heap.size = q := ⟨_, rfl⟩
                have HGX := Lib.hid hgx
                have hgTx : gT < gx := by rw [← hgx]; exact HO2.out.block.2
                have HB4 := Lib.hid hb4
                have HM4 := Lib.hid (HM2.out.grow hw4)
                have HO4 := Lib.hid (HO2.out.grow hw4)
                have HW4 := Lib.hid (below_then HW2.out hw4)
                have HG4 : Hid (W1.grownBy w4 (some b)) := grown_below HG2.out hw4
                rw [hgx] at HB4 ⊢
                clear hb4 hg4 hw4 HBN HIS HIR hgx
                cases L2 with
                | nil =>
                  have hpl := leftK_nil HIL.out HL2.out
                  have hfalse : legB l m = false := leg_short (k := t) (by rw [HN.out]; exact hlt) hpl
                  have HFA := Lib.hid hfalse
                  clear hpl hfalse hll hcc
                  go_wp2_with (first
                    | ((with_reducible show wpList _ _ _ (Oper.mk (some 68) (.load _ _) _ _ _ _ :: _) _ _); refine ld_ins HB4.out rfl _ rfl rfl ?_)
                    | ((with_reducible show wpList _ _ _ (Oper.mk (some 69) _ _ _ _ _ :: _) _ _); refine wp_lookV (v := .slice A2 0 cc) rfl _ _ rfl rfl rfl HM4.out HOK.out HGE.out ?_))
                  go_ret2
                  exact ⟨by rw [HFA.out]; rfl, below_then HB0.out HW4.out⟩
                | cons x r =>
                  obtain ⟨hx, hlr⟩ := leftK_cons HIL.out HL2.out
                  subst hx
                  obtain ⟨rn, hrn⟩ : ∃ n, r.length = n := ⟨_, rfl⟩
                  have hle : (((plF l m t : Nat) : Int) :: r).length = rn + 1 := by rw [List.length_cons, hrn]
                  rw [hle] at HGE hcc hll
                  have hdr := HIA.out.dropL (k := 1) (c := cc) (by rw [hle]; exact hcc)
                  rw [List.drop_one, List.tail_cons] at hdr
                  have HDR := Lib.hid hdr
                  obtain ⟨ad2, x2, rfl, hb2, hx2, hc2, -, -⟩ := (ints_notmap HIA.out HM.out HG4.out).at_ (k := 0) (by simp)
                  simp at hx2
                  subst hx2
                  have e0 : ad2.add 0 = ad2 := by simp [Addr.add]
                  rw [e0] at hc2
                  have cT : ∃ v, w4.cell? ⟨gT, t, none⟩ = some v := ⟨_, HO4.out.cell (k := t) (y := (atL l m k t).getD t 0) (by rw [List.getD_eq_getElem?_getD, List.getElem?_eq_getElem (by rw [atL_length]; exact hlt)]; rfl)⟩
                  obtain ⟨vT, cT⟩ := cT
                  have fT := HO4.out.free t
                  have hplt : plF l m t < k := by
                    have hp := plF_le l m t
                    rw [HN2.out] at hp
                    refine Nat.lt_of_le_of_ne hp (fun e => ?_)
                    have h1 := HL2.out
                    unfold leftK at h1
                    have h2 : (posK m m.length il)[(l.take t).count il]? = some ((plF l m t : Nat) : Int) := by
                      have := congrArg (·[0]?) h1
                      simp at this
                      exact this
                    rw [posK_full, List.getElem?_map] at h2
                    cases e5 : (posF m il)[(l.take t).count il]? with
                    | none => rw [e5] at h2; cases h2
                    | some p =>
                      rw [e5] at h2
                      injection h2 with h2
                      have h2 : (p : Int) = ((plF l m t : Nat) : Int) := h2
                      have := (posF_of e5).1
                      rw [HN2.out] at this
                      omega
                  have HPT := Lib.hid hplt
                  have HLR := Lib.hid hlr
                  have HRN := Lib.hid hrn
                  have hI : I64 ((plF l m t : Nat) : Int) := I64_nat (by omega)
                  have HII := Lib.hid hI
                  have b1 : (((rn + 1 : Nat) : Int) == 0) = false := by simp; omega
                  have b2 : ((rn : Int) + 1 == 0) = false := by simp; omega
                  have b3 : (0 : Int) < ((rn + 1 : Nat) : Int) := by omega
                  have HCC : Hid (rn + 1 ≤ cc) := hcc
                  clear hle hdr hb2 e0 hplt hlr hrn hI hcc
                  obtain ⟨pt, hpt⟩ : ∃ y : Nat, plF l m t = y := ⟨_, rfl⟩
                  have HPTE := Lib.hid hpt
                  rw [hpt] at hc2 HPT HII HL2
                  clear hpt
                  go_upto_region 23 with (first
                    | ((with_reducible show wpList _ _ _ (Oper.mk (some 68) (.load _ _) _ _ _ _ :: _) _ _); refine ld_ins HB4.out rfl _ rfl rfl ?_)
                    | ((with_reducible show wpList _ _ _ (Oper.mk (some 69) _ _ _ _ _ :: _) _ _); refine wp_lookV (v := .slice (some ad2) (rn + 1) cc) rfl _ _ rfl rfl rfl HM4.out HOK.out HGE.out ?_))
                  have HO5 : Hid (Own gT (w4.setCell ⟨gT, t, none⟩ (.int .i64 (pt : Int))) (.slice (some ⟨gT, 0, none⟩) k k) (atL l m k (t + 1))) := by
                    rw [← atL_set, HPTE.out]
                    exact Lib.hid (HO4.out.set t HII.out)
                  have HM5 := Lib.hid (HM4.out.store (gT := gT) (k := t) (u := .int .i64 (pt : Int)) (by omega))
                  have HB5 := Lib.hid (HB4.out.past (b := gT) (k := t) (u := .int .i64 (pt : Int)) (by omega))
                  have HG5 : Hid (W1.grownBy (w4.setCell ⟨gT, t, none⟩ (.int .i64 (pt : Int))) (some b)) := by
                    have := HG4.out
                    exact Lib.hid (grown_past2 this (grown_set (k := t) (u := .int .i64 (pt : Int)) (grown_refl w4 (some gT))) (by rw [← HGT.out]; exact Nat.le_refl _))
                  generalize w4.setCell ⟨gT, t, none⟩ (.int .i64 (pt : Int)) = w5 at HO5 HM5 HB5 HG5 ⊢
                  clear cT fT hc2 HM4 HO4 HB4 HG4 HW4 b1 b2
                  refine wp_region_grow 4 (Below w5.heap.size w5) (fun a b => Below a.heap.size a b) (lgF b il (.slice (some ad2) (rn + 1) cc) W1 r (cc - 1)) (by kernel_rfl) (by kernel_rfl) (Below.drew (Below.refl _ _)) (fun w1 w2 h1 h2 => ⟨below_then h1 h2, fun i _ v => lgF_keep i v⟩) ?_ ?_
                  · refine ⟨?_, ?_, ?_, ?_, trivial⟩
                    all_goals
                      intro vs w6 hb6 hF
                      have HB6 := Lib.hid (HB5.out.keep hb6)
                      clear hb6
                      simp [depsB, Region.binds, lgF] at hF
                      simp [stL, depsB, Region.binds, Act.put, hF]
                    · go_wp2_with fail; exact ⟨rfl, Below.refl _ _⟩
                    · refine ld_ins HB6.out rfl _ rfl rfl ?_
                      go_wp2_with fail; exact ⟨rfl, Below.refl _ _⟩
                    · go_wp2_with fail; exact ⟨rfl, Below.refl _ _⟩
                    · go_wp2_with fail
                      all_goals
                        have hd := HDR.out
                        first
                          | (rw [if_neg (by assumption)] at hd; simp [Addr.add] at hd; exact ⟨⟨_, by rw [HRN.out], hd⟩, Below.refl _ _⟩)
                          | (rw [if_pos (by assumption)] at hd; exact ⟨⟨_, by rw [HRN.out], hd⟩, Below.refl _ _⟩)
                  · intro vs w6 hb6 hF
                    have f0 : vs 0 = .map (some b) := hF 0 (by decide)
                    have f1 : vs 1 = il.v := hF 1 (by decide)
                    obtain ⟨A3, f3, hA3⟩ := hF 3 (by decide)
                    simp [stL, Act.put, f0, f1, f3]
                    generalize vs 2 = v2
                    clear hF f0 f1 f3
                    refine wp_mapset rfl _ _ _ rfl rfl rfl rfl (HM5.out.grow hb6) HOK.out ?_
                    intro w7 hM7 hg7
                    have HM7 := Lib.hid hM7
                    have HO7 := Lib.hid ((HO5.out.grow hb6).past2 hg7 (by omega))
                    have HG7 : Hid (W1.grownBy w7 (some b)) := grown_same (grown_below HG5.out hb6) hg7
                    have HS7 : Hid (SlM W1 (updI g2 il (.slice A3 r.length (cc - 1))) (leftK l m (t + 1))) := by
                      intro i
                      by_cases e : i = il
                      · subst e
                        rw [updI_same, HLR.out]
                        exact ⟨A3, cc - 1, rfl, by have := HRN.out; have := HCC.out; omega, hA3⟩
                      · rw [updI_other _ e, leftK_other HIL.out e]
                        exact HS2.out i
                    clear hM7 hg7 hb6
                    go_wp2_with fail
                    go_roundw
                    case rel => exact ⟨t + 1, _, rfl, by omega, HM7, HS7, HG7, HO7, fun j hj => by
                      by_cases e : j = t
                      · subst e; rw [HPTE.out]; exact HPT.out
                      · exact HP2.out j (by omega)⟩
                    case measure => simp [intOf]; omega
              · obtain rfl : t = k := by omega
                have hlo : ¬ (t : Int) < (t : Int) := by omega
                clear HS HS2 HM HM9 HG9 HO9 HG2 HM2
                go_upto_region 26 with fail
                obtain ⟨W3, hW3⟩ : ∃ W : World, W = wr := ⟨_, rfl⟩
                rw [← hW3] at HO2 HW2
                have HB3 : Hid (Below W3.heap.size W3 wr) := by rw [hW3]; exact Lib.hid (Below.refl _ _)
                clear hW3
                go_loopw [86] (fun x wr => ∃ j : Nat, x = .int .i64 j ∧ j ≤ t ∧ Hid (((List.range j).all fun j => (depRow l j j).all (okR l m j)) = true) ∧ Hid (Below W3.heap.size W3 wr)) (fun x _ => t - (intOf x).toNat)
                case atStart => exact ⟨0, rfl, Nat.zero_le _, Lib.hid rfl, HB3⟩
                case round =>
                  obtain ⟨j, rfl, hj, HR, HBj⟩ := hrel
                  have HWj := Lib.hid (HW2.out.trans (HBj.out.mono HW2.out.size))
                  by_cases hlt : j < t
                  · obtain ⟨dd, RB, rc, rfl, hdc, hri⟩ := (HD.out.grow HWj.out).row (HAT.out j hlt)
                    have HRI := Lib.hid hri
                    have HDM : Hid (∀ v ∈ depRow l j j, ∃ i : Nat, i < j ∧ v = i) := fun v hv => by
                      obtain ⟨i, h1, h2, -⟩ := depRow_mem hv
                      exact ⟨i, h1, h2⟩
                    have hdl := depRow_len l j j
                    obtain ⟨ds, hds⟩ : ∃ ds, depRow l j j = ds := ⟨_, rfl⟩
                    have HDS := Lib.hid hds
                    obtain ⟨rn, hrn⟩ : ∃ n, ds.length = n := ⟨_, rfl⟩
                    have HRN := Lib.hid hrn
                    rw [hds] at HRI HDM hdc hdl
                    rw [hrn] at hdc hdl
                    have q1 : (0 : Int) ≤ (j : Int) := by omega
                    have q2 : (j : Int) < (t : Int) := by omega
                    have wk : IntKind.i64.wrap ((j : Int) + 1) = ((j + 1 : Nat) : Int) := (IntWalk.i64_in _ (by omega)).trans (by omega)
                    clear hri hds hrn
                    go_upto_region 29 with fail
                    obtain ⟨wo, hwo⟩ : ∃ W : World, W = wr := ⟨_, rfl⟩
                    rw [← hwo] at HRI HBj
                    have HBo : Hid (Below wo.heap.size wo wr) := by rw [hwo]; exact Lib.hid (Below.refl _ _)
                    clear hwo hdc HWj
                    go_loopw [93] (fun x w' => ∃ s : Nat, x = .int .i64 s ∧ s ≤ rn ∧ Hid ((ds.take s).all (okR l m j) = true) ∧ Hid (Below wo.heap.size wo w')) (fun x _ => rn - (intOf x).toNat)
                    case atStart => exact ⟨0, rfl, Nat.zero_le _, Lib.hid rfl, HBo⟩
                    case round =>
                      obtain ⟨s, rfl, hs, HT, HBs⟩ := hrel
                      by_cases hst : s < rn
                      · obtain ⟨rd, iv, rfl, hrb, hiv, hrc, -, -⟩ := (HRI.out.grow HBs.out).at_ (k := s) (by rw [HRN.out]; exact hst)
                        obtain ⟨i, hij, rfl⟩ := HDM.out iv (List.mem_of_getElem? hiv)
                        have HIV := Lib.hid hiv
                        have hB3s : Below W3.heap.size W3 wr := below_then HBj.out HBs.out
                        have HOs := Lib.hid (HO2.out.grow hB3s)
                        have cI := HOs.out.cell (atL_at (l := l) (m := m) (n := t) (i := i) (by omega))
                        have cJ := HOs.out.cell (atL_at (l := l) (m := m) (n := t) (i := j) hlt)
                        have hgw := HOs.out.block.2
                        have zI : ∀ n : Ext wr, n.to.cell? ⟨gT, i, none⟩ = some (.int .i64 ((plF l m i : Nat) : Int)) := fun n => (n.cell _ hgw).trans cI
                        have zJ : ∀ n : Ext wr, n.to.cell? ⟨gT, j, none⟩ = some (.int .i64 ((plF l m j : Nat) : Int)) := fun n => (n.cell _ hgw).trans cJ
                        obtain ⟨pi, hpi⟩ : ∃ y : Nat, plF l m i = y := ⟨_, rfl⟩
                        obtain ⟨pj, hpj⟩ : ∃ y : Nat, plF l m j = y := ⟨_, rfl⟩
                        rw [hpi] at zI
                        rw [hpj] at zJ
                        have HPI := Lib.hid hpi
                        have HPJ := Lib.hid hpj
                        have s1 : (0 : Int) ≤ (s : Int) := by omega
                        have s2 : (s : Int) < (rn : Int) := by omega
                        have s3 : (0 : Int) ≤ (i : Int) := by omega
                        have s4 : (i : Int) < (t : Int) := by omega
                        have ws : IntKind.i64.wrap ((s : Int) + 1) = ((s + 1 : Nat) : Int) := (IntWalk.i64_in _ (by omega)).trans (by omega)
                        have HB3s := Lib.hid hB3s
                        clear hiv hrb hB3s cI cJ hgw hpi hpj
                        go_upto_region 31 with fail
                        refine wp_region_ext (by kernel_rfl) (by kernel_rfl) ?_
                        repeat (go_big_quiet_step (fail))
                        refine wpQuiet_nil ?_
                        rintro w9 ⟨⟨_, hb9⟩, rfl⟩
                        have HB9 := Lib.hid (below_then HBs.out hb9)
                        have HB39 := Lib.hid (below_then HB3s.out hb9)
                        clear hb9 zI zJ
                        by_cases hgt : pj < pi
                        · have hfalse : legB l m = false := leg_bad (j := j) (v := (i : Int)) (by rw [HN.out]; exact hlt) (by rw [HDS.out]; exact List.mem_of_getElem? HIV.out) (by
                            unfold okR
                            rw [Int.toNat_natCast, HPI.out, HPJ.out]
                            exact decide_eq_false (by omega))
                          have HFA := Lib.hid hfalse
                          have t1 : (pj : Int) < (pi : Int) := by omega
                          have t2 : decide ((pj : Int) < (pi : Int)) = true := decide_eq_true t1
                          clear hfalse
                          go_wp2_with fail
                          go_ret2
                          exact ⟨by rw [HFA.out]; rfl, below_then HB0.out (HW2.out.trans (HB39.out.mono HW2.out.size))⟩
                        · have t1 : ¬ (pj : Int) < (pi : Int) := by omega
                          have t2 : decide ((pj : Int) < (pi : Int)) = false := decide_eq_false t1
                          have HTS : Hid ((ds.take (s + 1)).all (okR l m j) = true) := by
                            show _ = _
                            rw [all_take HIV.out, HT.out, Bool.true_and]
                            unfold okR
                            rw [Int.toNat_natCast, HPI.out, HPJ.out]
                            exact decide_eq_true (by omega)
                          go_wp2_with fail
                          go_roundw
                          case rel => exact ⟨s + 1, rfl, by omega, HTS, HB9⟩
                          case measure => simp [intOf]; omega
                      · obtain rfl : s = rn := by omega
                        have hlo2 : ¬ (s : Int) < (s : Int) := by omega
                        have HRS : Hid (((List.range (j + 1)).all fun j => (depRow l j j).all (okR l m j)) = true) := by
                          show _ = _
                          refine and_all HR.out ?_
                          rw [HDS.out]
                          have := HT.out
                          rwa [List.take_of_length_le (Nat.le_of_eq HRN.out)] at this
                        have HB3e := Lib.hid (below_then HBj.out HBs.out)
                        go_wp2_with fail
                        go_roundw
                        case rel => exact ⟨j + 1, rfl, by omega, HRS, HB3e⟩
                        case measure => simp [intOf]; omega
                  · obtain rfl : j = t := by omega
                    have hlo3 : ¬ (j : Int) < (j : Int) := by omega
                    have htrue : legB l m = true := leg_good (HN.out.trans HN2.out.symm) (fun i hi => by rw [HN2.out]; exact HP2.out i (by rw [← HN.out]; exact hi)) (by rw [HN.out]; exact HR.out)
                    have HTR := Lib.hid htrue
                    clear htrue
                    go_wp2_with fail
                    go_ret2
                    exact ⟨by rw [HTR.out]; rfl, below_then HB0.out HWj.out⟩
      · have hl : legB l m = false := leg_len (by rw [hn, hn2]; exact hnn)
        have b1 : ((n : Int) == (n2 : Int)) = false := by simp; omega
        have b2 : ((n : Int) != (n2 : Int)) = true := by simp; omega
        rw [hl]
        clear h h2 hf hn hn2 hfl hfm hnn h92 e1 e2 e4 e5 hr he hm512 hn512 hl h9
        go_enter Tryd.func17, Tryd.ntmps17
        go_upto_region 4 with (go_at_call 7; (with_reducible refine CD.out.mono ?_); rintro e1 w1 ⟨DA, dc, rfl, hd, hb1⟩)
        go_wp2_with (go_at_call 22; (with_reducible refine (CU.out _ hb1).mono ?_); rintro e1 w2 ⟨⟨UA, uc, rfl, -⟩, hb2⟩; rw [HE5.out])
        go_ret2
        exact ⟨rfl, below_then hb1 hb2⟩
    · have hfm : fineF m = false := by simpa using hfm
      have e5 : depE m = 21 := by unfold depE; rw [hfm]; rfl
      have HE5 := Lib.hid e5
      have hr : legR l m = false := by unfold legR; rw [hfl, hfm]; rfl
      have he : legE l m = 21 := by unfold legE; rw [hfl, hfm]; rfl
      rw [hr, he]
      clear h h2 hf hn hn2 hfl hfm h92 e1 e2 e4 e5 hr he h9
      go_enter Tryd.func17, Tryd.ntmps17
      go_upto_region 4 with (go_at_call 7; (with_reducible refine CD.out.mono ?_); rintro e1 w1 ⟨DA, dc, rfl, hd, hb1⟩)
      go_wp2_with (go_at_call 22; (with_reducible refine (CU.out _ hb1).mono ?_); rintro e1 w2 ⟨⟨UA, uc, rfl, -⟩, hb2⟩; rw [HE5.out])
      go_ret2
      exact ⟨rfl, below_then hb1 hb2⟩
  · have hfl : fineF l = false := by simpa using hfl
    have e1 : depD l = [] := by unfold depD; rw [hfl]; rfl
    have e2 : depE l = 21 := by unfold depE; rw [hfl]; rfl
    have hr : legR l m = false := by unfold legR; rw [hfl]; rfl
    have he : legE l m = 21 := by unfold legE; rw [hfl]; rfl
    rw [e1, e2] at CD
    rw [hr, he]
    clear h h2 hf hn hn2 hfl h92 e1 e2 hr he h9
    go_enter Tryd.func17, Tryd.ntmps17
    go_wp2_with (go_at_call 7; (with_reducible refine CD.out.mono ?_); rintro e1 w1 ⟨DA, dc, rfl, hd, hb1⟩)
    go_ret2
    exact ⟨rfl, hb1⟩
end Go.Proofs.YtemefigbnjkdoaaDoor
