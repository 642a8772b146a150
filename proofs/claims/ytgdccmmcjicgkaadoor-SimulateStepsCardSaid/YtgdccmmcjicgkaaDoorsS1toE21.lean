/- Several texts in one: S1 E17 E18 J3 E19 E21. -/
import Derived.Test.YtgdccmmcjicgkaaDoorsE15toE23
import Derived.Test.YtgdccmmcjicgkaaDoorsE5toE14
import Derived.Test.YtgdccmmcjicgkaaDoorsJtoJ2
set_option linter.unusedVariables false
set_option linter.unusedSimpArgs false
section
namespace Go.Proofs.YtgdccmmcjicgkaaDoor
open Go.RowKit
def ringIn (x : Int × Int) : Bool := decide (1 ≤ x.2 ∧ x.2 ≤ 128 ∧ 0 ≤ x.1 ∧ x.1 ≤ 128 - x.2)
def inR (m : Int) (x : Int × Int) : Bool := decide (x.1 ≤ m ∧ m < x.1 + x.2)
def usdB (rg : List (Int × Int)) (m : Int) : Bool := rg.any (inR m)
def clash (x y : Int × Int) : Bool := decide (x.1 < y.1 + y.2 ∧ y.1 < x.1 + x.2)
def ringsK (rg : List (Int × Int)) : Nat → Bool
  | 0 => true
  | k + 1 => ringsK rg k && (ringIn (rg.getD k (0, 0)) && !(rg.take k).any (clash (rg.getD k (0, 0))))
def ringsB (rg : List (Int × Int)) : Bool := decide (rg.length ≤ 8) && ringsK rg rg.length
def fitI (d : PrgD) (i : Ins) : Bool :=
  (if i.op = 4 then decide (i.a < d.rg.length) && decide (i.b < (d.rg.getD i.a.toNat (0, 0)).2) else if i.op = 8 then decide (i.a < d.rg.length)
   else if i.op = 3 then !usdB d.rg i.a else if i.op = 6 ∨ i.op = 7 then !usdB d.rg i.b else true)
  && (if i.op = 2 ∨ i.op = 3 ∨ i.op = 4 then fitsW d.c0 d.c1 d.c2 d.c3 i.imm || decide (i.imm = 2 ^ d.c1.toNat) else true)
def suitB (d : PrgD) (i : Ins) : Bool := i.formed && fitI d i
def okWD (d : PrgD) : Bool := okW d.d0 d.d1 d.d2 d.d3 && okW d.c0 d.c1 d.c2 d.c3
def goodAt (d : PrgD) (k : Nat) : Bool := suitB d (d.code.getD k Ins.zero) && (decide ((d.code.getD k Ins.zero).op = 0) == decide (k + 1 = d.code.length))
def chkF (d : PrgD) : Int × Int :=
  if okWD d = false then (-1, 2) else if ringsB d.rg = false then (-1, 23) else if inB d.code.length 1 512 = false then (-1, 5)
  else match (List.range d.code.length).find? (fun k => !goodAt d k) with
    | some k => ((k : Int), 21)
    | none => (-1, 0)
def validB (d : PrgD) : Bool := okWD d && (ringsB d.rg && (inB d.code.length 1 512 && (List.range d.code.length).all (goodAt d)))
theorem find_range {p : Nat → Bool} {n k : Nat} (hk : k < n) (h : ∀ j, j < k → p j = false) (hp : p k = true) : (List.range n).find? p = some k := by
  rw [List.find?_range_eq_some]
  exact ⟨hp, List.mem_range.2 hk, fun j hj => by rw [h j hj]; rfl⟩
theorem find_none {p : Nat → Bool} {n : Nat} (h : ∀ j, j < n → p j = false) : (List.range n).find? p = none := by
  rw [List.find?_eq_none]
  intro j hj
  rw [h j (List.mem_range.1 hj)]; simp
theorem chk_words {d : PrgD} (h : okWD d = false) : chkF d = (-1, 2) := by unfold chkF; rw [if_pos h]
theorem chk_rings {d : PrgD} (h : okWD d = true) (h1 : ringsB d.rg = false) : chkF d = (-1, 23) := by unfold chkF; rw [if_neg (by rw [h]; decide), if_pos h1]
theorem chk_many {d : PrgD} (h : okWD d = true) (h1 : ringsB d.rg = true) (h2 : inB d.code.length 1 512 = false) : chkF d = (-1, 5) := by
  unfold chkF; rw [if_neg (by rw [h]; decide), if_neg (by rw [h1]; decide), if_pos h2]
theorem chk_at {d : PrgD} (h : okWD d = true) (h1 : ringsB d.rg = true) (h2 : inB d.code.length 1 512 = true) {k : Nat} (hk : k < d.code.length) (hg : ∀ j, j < k → goodAt d j = true) (hb : goodAt d k = false) : chkF d = ((k : Int), 21) := by
  unfold chkF
  rw [if_neg (by rw [h]; decide), if_neg (by rw [h1]; decide), if_neg (by rw [h2]; decide), find_range (p := fun k => !goodAt d k) hk (fun j hj => by rw [hg j hj]; rfl) (by rw [hb]; rfl)]
theorem chk_ok {d : PrgD} (h : okWD d = true) (h1 : ringsB d.rg = true) (h2 : inB d.code.length 1 512 = true) (hg : ∀ j, j < d.code.length → goodAt d j = true) : chkF d = (-1, 0) := by
  unfold chkF
  rw [if_neg (by rw [h]; decide), if_neg (by rw [h1]; decide), if_neg (by rw [h2]; decide), find_none (p := fun k => !goodAt d k) (fun j hj => by rw [hg j hj]; rfl)]
theorem chk_valid (d : PrgD) : decide ((chkF d).2 = 0) = validB d := by
  unfold validB
  rcases Bool.eq_false_or_eq_true (okWD d) with h | h
  · rcases Bool.eq_false_or_eq_true (ringsB d.rg) with h1 | h1
    · rcases Bool.eq_false_or_eq_true (inB d.code.length 1 512) with h2 | h2
      · rw [h, h1, h2]
        by_cases hg : ∀ j, j < d.code.length → goodAt d j = true
        · rw [chk_ok h h1 h2 hg]
          simp only [Bool.true_and]
          exact (List.all_eq_true.2 fun j hj => hg j (List.mem_range.1 hj)).symm
        · unfold chkF
          rw [if_neg (by rw [h]; decide), if_neg (by rw [h1]; decide), if_neg (by rw [h2]; decide)]
          cases e : (List.range d.code.length).find? (fun k => !goodAt d k) with
          | none =>
            rw [List.find?_eq_none] at e
            exact absurd (fun j hj => by have := e j (List.mem_range.2 hj); simpa using this) hg
          | some k =>
            have h3 := List.find?_some e
            have h4 := List.mem_of_find?_eq_some e
            simp only [Bool.true_and]
            symm
            show _ = false
            rw [List.all_eq_false]
            exact ⟨k, h4, by simpa using h3⟩
      · rw [chk_many h h1 h2, h2]; simp
    · rw [chk_rings h h1, h1]; simp
  · rw [chk_words h, h]; simp
theorem valid_parts {d : PrgD} (h : validB d = true) : okWD d = true ∧ ringsB d.rg = true ∧ (1 ≤ d.code.length ∧ d.code.length ≤ 512) ∧ ∀ j, j < d.code.length → goodAt d j = true := by
  unfold validB at h
  simp only [Bool.and_eq_true] at h
  obtain ⟨h1, h2, h3, h4⟩ := h
  rw [inB_iff] at h3
  exact ⟨h1, h2, by omega, fun j hj => List.all_eq_true.1 h4 j (List.mem_range.2 hj)⟩
theorem inR_iff {m : Int} {x : Int × Int} : inR m x = true ↔ x.1 ≤ m ∧ m < x.1 + x.2 := by unfold inR; rw [decide_eq_true_eq]
theorem ringIn_iff {x : Int × Int} : ringIn x = true ↔ 1 ≤ x.2 ∧ x.2 ≤ 128 ∧ 0 ≤ x.1 ∧ x.1 ≤ 128 - x.2 := by unfold ringIn; rw [decide_eq_true_eq]
theorem clash_iff {x y : Int × Int} : clash x y = true ↔ x.1 < y.1 + y.2 ∧ y.1 < x.1 + x.2 := by unfold clash; rw [decide_eq_true_eq]
theorem clash_used {x : Int × Int} {l : List (Int × Int)} (hx : 1 ≤ x.2) (hl : ∀ y ∈ l, 1 ≤ y.2) : l.any (clash x) = true ↔ ∃ k : Nat, (k : Int) < x.2 ∧ usdB l (x.1 + k) = true := by
  unfold usdB
  constructor
  · intro h
    obtain ⟨y, hy, hc⟩ := List.any_eq_true.1 h
    rw [clash_iff] at hc
    have := hl y hy
    refine ⟨(max y.1 x.1 - x.1).toNat, by omega, List.any_eq_true.2 ⟨y, hy, inR_iff.2 (by omega)⟩⟩
  · rintro ⟨k, hk, h⟩
    obtain ⟨y, hy, hc⟩ := List.any_eq_true.1 h
    rw [inR_iff] at hc
    exact List.any_eq_true.2 ⟨y, hy, clash_iff.2 (by omega)⟩
theorem ringsK_all {rg : List (Int × Int)} : ∀ {k : Nat}, ringsK rg k = true → k ≤ rg.length → ∀ y ∈ rg.take k, ringIn y = true
  | 0, _, _ => by simp
  | k + 1, h, hk => fun y hy => by
    unfold ringsK at h
    simp only [Bool.and_eq_true] at h
    have e : rg.take (k + 1) = rg.take k ++ [rg.getD k (0, 0)] := by
      rw [List.take_succ_eq_append_getElem (show k < rg.length by omega), List.getD_eq_getElem?_getD, List.getElem?_eq_getElem (show k < rg.length by omega)]; rfl
    rw [e] at hy
    rcases List.mem_append.1 hy with h2 | h2
    · exact ringsK_all h.1 (by omega) y h2
    · rw [List.mem_singleton.1 h2]; exact h.2.1
theorem ringsK_le {rg : List (Int × Int)} : ∀ {k j : Nat}, j ≤ k → ringsK rg k = true → ringsK rg j = true
  | 0, j, hj, h => by obtain rfl : j = 0 := by omega
                      exact h
  | k + 1, j, hj, h => by
    by_cases e : j = k + 1
    · rw [e]; exact h
    · unfold ringsK at h
      rw [Bool.and_eq_true] at h
      exact ringsK_le (by omega) h.1
theorem ringsB_no {rg : List (Int × Int)} {k : Nat} (hk : k ≤ rg.length) (h : ringsK rg k = false) : ringsB rg = false := by
  unfold ringsB
  rcases Bool.eq_false_or_eq_true (ringsK rg rg.length) with h1 | h1
  · rw [ringsK_le hk h1] at h; cases h
  · rw [h1, Bool.and_false]
def markF (l : List (Int × Int)) (b : Int) (k : Nat) : List Bool := (List.range 128).map fun (j : Nat) => usdB l j || inR j (b, (k : Int))
theorem markF_len (l : List (Int × Int)) (b : Int) (k : Nat) : (markF l b k).length = 128 := by simp [markF]
theorem markF_zero (l : List (Int × Int)) (b b' : Int) : markF l b 0 = markF l b' 0 := by
  unfold markF
  refine List.map_congr_left fun j _ => ?_
  have e : ∀ c : Int, inR j (c, ((0 : Nat) : Int)) = false := fun c => by
    unfold inR; rw [decide_eq_false_iff_not]; simp only; omega
  rw [e, e]
theorem markF_get {l : List (Int × Int)} {b : Int} {k : Nat} {j : Nat} (hj : j < 128) : (markF l b k)[j]? = some (usdB l j || inR j (b, (k : Int))) := by
  unfold markF
  rw [List.getElem?_map, List.getElem?_range hj]; rfl
theorem markF_next {l : List (Int × Int)} {b : Int} {k m : Nat} (hm : b + k = m) (h : m < 128) : (markF l b k).set m true = markF l b (k + 1) := by
  apply List.ext_getElem?
  intro j
  rw [List.getElem?_set, markF_len]
  by_cases hj : j < 128
  · rw [markF_get hj, markF_get hj]
    by_cases e : m = j
    · subst e
      rw [if_pos rfl, if_pos h]
      have e1 : inR (m : Int) (b, ((k + 1 : Nat) : Int)) = true := inR_iff.2 (by simp only; omega)
      rw [e1, Bool.or_true]
    · rw [if_neg e]
      have e1 : inR (j : Int) (b, ((k + 1 : Nat) : Int)) = inR (j : Int) (b, (k : Int)) := by
        unfold inR
        rw [decide_eq_decide]
        simp only; omega
      rw [e1]
  · have e0 : (markF l b k)[j]? = none := List.getElem?_eq_none (by rw [markF_len]; omega)
    have e1 : (markF l b (k + 1))[j]? = none := List.getElem?_eq_none (by rw [markF_len]; omega)
    rw [e0, e1]
    rw [if_neg (by omega)]
theorem markF_ring {l : List (Int × Int)} {x : Int × Int} {b : Int} {n : Nat} (hn : x.2 = n) : markF l x.1 n = markF (l ++ [x]) b 0 := by
  unfold markF
  refine List.map_congr_left fun j _ => ?_
  have e : inR j (b, ((0 : Nat) : Int)) = false := by
    unfold inR; rw [decide_eq_false_iff_not]; simp only; omega
  rw [e]
  unfold usdB
  rw [List.any_append, Bool.or_false, List.any_cons, List.any_nil, Bool.or_false, ← hn]
theorem used_all {rg : List (Int × Int)} {j : Nat} {b : Int} (hj : j < 128) : (markF rg b 0)[j]? = some (usdB rg j) := by
  rw [markF_get hj]
  have e : inR j (b, ((0 : Nat) : Int)) = false := by
    unfold inR; rw [decide_eq_false_iff_not]; simp only; omega
  rw [e, Bool.or_false]
end Go.Proofs.YtgdccmmcjicgkaaDoor
end
section
namespace Go.Proofs.YtgdccmmcjicgkaaDoor
def issF (t : Int × List Int) (i : Ins) : Int := rdF t.2 t.1 i.rd
def freeF (l : List Ins) (tk : List Bool) (k : Nat) : Bool := !(tk.getD k false) && (depRow l k k).all fun i => tk.getD i.toNat false
def betF (l : List Ins) (H : List Int) (t : Int × List Int) (b : Int × Int) (k : Nat) : Bool :=
  decide (b.1 < 0) || decide (issF t (l.getD k Ins.zero) < b.2) || (decide (issF t (l.getD k Ins.zero) = b.2) && decide (H.getD b.1.toNat 0 < H.getD k 0))
def stepB (l : List Ins) (H : List Int) (t : Int × List Int) (tk : List Bool) (b : Int × Int) (k : Nat) : Int × Int :=
  if freeF l tk k then (if betF l H t b k then ((k : Int), issF t (l.getD k Ins.zero)) else b) else b
def bestB (l : List Ins) (H : List Int) (t : Int × List Int) (tk : List Bool) (m : Nat) : Int × Int := (List.range m).foldl (stepB l H t tk) (-1, 0)
def grS (l : List Ins) (H : List Int) (s : List Bool × List Ins) : List Bool × List Ins :=
  (s.1.set (bestB l H (tmF s.2) s.1 l.length).1.toNat true, s.2 ++ [l.getD (bestB l H (tmF s.2) s.1 l.length).1.toNat Ins.zero])
def gr (l : List Ins) (H : List Int) : Nat → List Bool × List Ins
  | 0 => (List.replicate l.length false, [])
  | r + 1 => grS l H (gr l H r)
end Go.Proofs.YtgdccmmcjicgkaaDoor
end
section
namespace Go.Proofs.YtgdccmmcjicgkaaDoor
open Go.RowKit
theorem BoxI.under {g b : Nat} {w w' : World} {R : List Int} (h : BoxI w g R) (hb : Below b w w') (hg : g < b) : BoxI w' g R := Box.block h (hb.block g hg) hb.size
end Go.Proofs.YtgdccmmcjicgkaaDoor
end
section
namespace Go.Proofs.YtgdccmmcjicgkaaDoor
open Go.RowKit
section
variable {P : Program} {md : Region.Mode}
def Prior (F : Nat → Value → World → Prop) (G : Nat → Value → World → World → Prop) (i j : Nat) (u v : Value) : Prop := ∃ w w', F i u w ∧ G j v w w'
def stepsL3 (P : Program) (md : Region.Mode) (ops : List Oper) (a : Act) (C : World → Prop) (G : Nat → Value → World → World → Prop) (F : Nat → Value → World → Prop) : Nat → List Oper → Prop
  | _, [] => True
  | k, o :: l => (∀ vs w, C w → (∀ i, depsB md o i = true → F i (vs i) w) → (∀ i j, depsB md o i = true → depsB md o j = true → i ≠ j → Prior F G i j (vs i) (vs j) ∨ Prior F G j i (vs j) (vs i)) → wpList P #[o] (fun e c w' => e = .normal ∧ ∃ v, c = (stL ops 0 (depsB md o) vs a).put o.dst v ∧ (F k v w' ∧ G k v w w')) [o] (stL ops 0 (depsB md o) vs a) w) ∧ stepsL3 P md ops a C G F (k + 1) l
theorem stepsL3_at {ops : List Oper} {a : Act} {C : World → Prop} {G : Nat → Value → World → World → Prop} {F : Nat → Value → World → Prop} : ∀ (l : List Oper) (k j : Nat) (o : Oper), stepsL3 P md ops a C G F k l → l[j]? = some o →
    ∀ vs w, C w → (∀ i, depsB md o i = true → F i (vs i) w) → (∀ i j, depsB md o i = true → depsB md o j = true → i ≠ j → Prior F G i j (vs i) (vs j) ∨ Prior F G j i (vs j) (vs i)) → wpList P #[o] (fun e c w' => e = .normal ∧ ∃ v, c = (stL ops 0 (depsB md o) vs a).put o.dst v ∧ (F (k + j) v w' ∧ G (k + j) v w w')) [o] (stL ops 0 (depsB md o) vs a) w
  | [], _, _, _, _, h => by simp at h
  | o :: l, k, 0, o', hs, h => by
    simp only [List.getElem?_cons_zero, Option.some.injEq] at h
    subst h
    exact hs.1
  | o :: l, k, j + 1, o', hs, h => by
    rw [show k + (j + 1) = k + 1 + j by omega]
    exact stepsL3_at l (k + 1) j o' hs.2 (by simpa using h)
theorem wpAny_grow3 {N : Nat} {l : List Oper} {a : Act} {Q : Exit → Act → World → Prop} {C : World → Prop} {G : Nat → Value → World → World → Prop} {F : Nat → Value → World → Prop} (hQ : ∀ c a w, ¬ Q (.panic c) a w) (hB : growB md N a.tmps.size l = true)
    (hst : ∀ j x w w', C w → G j x w w' → C w' ∧ ∀ i, i < N → ∀ v, F i v w → F i v w') (hs : stepsL3 P md l a C G F 0 (l.take N))
    (hf : ∀ vs w', C w' → (∀ i, i < N → F i (vs i) w') → (∀ i j, i < N → j < N → i ≠ j → Prior F G i j (vs i) (vs j) ∨ Prior F G j i (vs j) (vs i)) → wpList P l.toArray Q (l.drop N) (stL l 0 (fun i => decide (i < N)) vs a) w') :
    ∀ (fuel : Nat) (listed : Array Bool) (w : World) (vs : Nat → Value), (List.range l.length).countP (fun i => !listed.getD i false) = fuel → listed.size = l.length → (∀ i, i < l.length → N ≤ i → listed.getD i false = false) → C w →
      (∀ i, i < N → listed.getD i false = true → F i (vs i) w) → (∀ i j, i < N → j < N → i ≠ j → listed.getD i false = true → listed.getD j false = true → Prior F G i j (vs i) (vs j) ∨ Prior F G j i (vs j) (vs i)) → wpAny P md l.toArray Q fuel listed (stL l 0 (fun i => listed.getD i false) vs a) w := by
  have hNl : N ≤ l.length := by
    unfold growB at hB
    simp only [Bool.and_eq_true, decide_eq_true_eq] at hB
    exact hB.2.1
  have hsel : ∀ (j : Nat) (o : Oper) cs b, l.toArray[j]? = some o → o.op ≠ .select cs b := by
    unfold growB at hB
    rw [Bool.and_eq_true] at hB
    exact Region.noSelect_spec hB.1
  intro fuel
  induction fuel with
  | zero =>
    intro listed w vs hc hsz ht hC hF hP
    have hall := cnt_zero hc
    have hlist : ∀ i, i < l.length → listed.getD i false = true := fun i hi => by simpa using hall i hi
    have hN : N = l.length := by
      rcases Nat.lt_or_ge N l.length with h | h
      · have h1 := ht N h (Nat.le_refl _)
        rw [hlist N h] at h1; cases h1
      · omega
    refine wpAny_tail hB 0 l.length listed _ w rfl (by omega) hsz (fun i hi => by rw [hlist i hi]; simp [hi]) ?_
    have := hf vs w hC (fun i hi => hF i hi (hlist i (by omega))) (fun i j hi hj hn => hP i j hi hj hn (hlist i (by omega)) (hlist j (by omega)))
    rw [hN] at this
    rw [stL_congr l 0 _ (fun i => decide (i < l.length)) vs vs a (fun i _ hi => ⟨by rw [hlist i (by omega)]; simp; omega, fun _ => rfl⟩)]
    exact this
  | succ fuel ih =>
    intro listed w vs hc hsz ht hC hF hP
    by_cases hfull : ∀ i, i < N → listed.getD i false = true
    · have hl : ∀ i, i < l.length → listed.getD i false = decide (i < N) := fun i hi => by
        by_cases h : i < N
        · rw [hfull i h]; simp [h]
        · rw [ht i hi (by omega)]; simp; omega
      have hk : N + (fuel + 1) = l.length := by
        have e : (List.range l.length).countP (fun i => !listed.getD i false) = (List.range l.length).countP (fun i => decide (N ≤ i)) := List.countP_congr fun i hi => by
          rw [hl i (List.mem_range.1 hi)]
          simp
        have e2 : ∀ n, (List.range n).countP (fun i => decide (N ≤ i)) = n - N := fun n => by
          induction n with
          | zero => simp
          | succ n ihn =>
            rw [List.range_succ, List.countP_append, ihn]
            by_cases h : N ≤ n
            · simp [h]; omega
            · simp [h]; omega
        rw [e, e2] at hc
        omega
      refine wpAny_tail hB (fuel + 1) N listed _ w hk (Nat.le_refl _) hsz hl ?_
      have := hf vs w hC (fun i hi => hF i hi (hfull i hi)) (fun i j hi hj hn => hP i j hi hj hn (hfull i hi) (hfull j hj))
      rw [stL_congr l 0 _ (fun i => decide (i < N)) vs vs a (fun i _ hi => ⟨hl i (by omega), fun _ => rfl⟩)]
      exact this
    · -- the least one that is not listed can come up
      obtain ⟨m, hmN, hmun, hmin⟩ : ∃ m, m < N ∧ listed.getD m false = false ∧ ∀ i, i < m → listed.getD i false = true := by
        have : ∃ m, m < N ∧ listed.getD m false = false := by
          rcases Classical.not_forall.1 hfull with ⟨m, hm⟩
          rw [Classical.not_imp] at hm
          exact ⟨m, hm.1, by simpa using hm.2⟩
        obtain ⟨m, h1, h2⟩ := this
        clear hfull
        induction m using Nat.strongRecOn with
        | _ m ihm =>
          by_cases h : ∃ i, i < m ∧ listed.getD i false = false
          · obtain ⟨i, hi, hi2⟩ := h
            exact ihm i hi (by omega) hi2
          · refine ⟨m, h1, h2, fun i hi => ?_⟩
            cases hv : listed.getD i false with
            | true => rfl
            | false => exact absurd ⟨i, hi, hv⟩ h
      have hgt : ∀ i, i < l.length → ∀ d, listed.getD i d = listed.getD i false := fun i hi d => by
        rw [Array.getD_eq_getD_getElem?, Array.getD_eq_getD_getElem?, Array.getElem?_eq_getElem (by omega)]
        rfl
      obtain ⟨om, hom⟩ : ∃ o, l[m]? = some o := ⟨_, List.getElem?_eq_getElem (by omega)⟩
      have hready : m ∈ Region.ready md l.toArray listed := by
        rw [mem_ready]
        exact ⟨by rw [hgt m (by omega)]; exact hmun, om, by simpa using hom, fun e he hb => hmin e.on ((growB_spec hB hom).2.2.1 e he hb)⟩
      -- one operation of the first N, done
      have go : ∀ j o v w', j < N → l[j]? = some o → listed.getD j false = false → F j v w' → G j v w w' → wpAny P md l.toArray Q fuel (listed.setIfInBounds j true) ((stL l 0 (fun i => listed.getD i false) vs a).put o.dst v) w' := by
        intro j o v w' hjN ho h1 hFv hG
        obtain ⟨_, _, _, hall⟩ := growB_spec hB ho
        have hlt := (List.getElem?_eq_some_iff.1 ho).1
        obtain ⟨hC', hst'⟩ := hst j v w w' hC hG
        have hadd := stL_add l 0 j (fun i => listed.getD i false) vs a o v ho (by rw [Nat.zero_add]; exact h1) (fun i o' hi hne d hd => (hall i o' hi).1 (fun e => hne e.symm) d hd)
        simp only [Nat.zero_add] at hadd
        have hget : ∀ i, (listed.setIfInBounds j true).getD i false = (listed.getD i false || i == j) := fun i => by
          by_cases e : j = i
          · subst e
            rw [Array.getD_eq_getD_getElem?, Array.getElem?_setIfInBounds_self_of_lt (by omega)]
            simp
          · rw [getD_set_ne false e]
            have : (i == j) = false := by simp; exact fun h => e h.symm
            rw [this, Bool.or_false]
        rw [← hadd, ← stL_congr l 0 (fun i => (listed.setIfInBounds j true).getD i false) _ (fun i => if i = j then v else vs i) _ a (fun i _ _ => ⟨hget i, fun _ => rfl⟩)]
        refine ih (listed.setIfInBounds j true) w' (fun i => if i = j then v else vs i) ?_ (by simpa using hsz) (fun i hi hNi => ?_) hC' (fun i hi hl => ?_) (fun i i' hi hi' hne hl hl' => ?_)
        · have := cnt_set l.length (fun i => !listed.getD i false) (fun i => !(listed.setIfInBounds j true).getD i false) j hlt (by rw [h1]; rfl) (by rw [hget]; simp) (fun i hi => by rw [hget]; simp [hi])
          omega
        · rw [hget, ht i hi hNi]
          simp; omega
        · rw [hget] at hl
          by_cases e : i = j
          · subst e; simpa using hFv
          · rw [if_neg e]
            refine hst' i hi _ (hF i hi ?_)
            have : (i == j) = false := by simp [e]
            rw [this, Bool.or_false] at hl
            exact hl
        · rw [hget] at hl hl'
          by_cases e : i = j
          · subst e
            have e' : (i' == i) = false := by simp; exact fun h => hne h.symm
            rw [e', Bool.or_false] at hl'
            have e2 : ¬ i' = i := fun h => hne h.symm
            simp only [if_true, e2, if_false]
            exact .inr ⟨w, w', hF i' hi' hl', hG⟩
          · have e1 : (i == j) = false := by simp; exact e
            rw [e1, Bool.or_false] at hl
            by_cases e' : i' = j
            · subst e'
              simp only [if_true, e, if_false]
              exact .inl ⟨w, w', hF i hi hl, hG⟩
            · have e2 : (i' == j) = false := by simp; exact e'
              rw [e2, Bool.or_false] at hl'
              simp only [e, e', if_false]
              exact hP i i' hi hi' hne hl hl'
      have step : ∀ j o, j < N → l[j]? = some o → (∀ e ∈ o.after, Region.binds md e = true → listed.getD e.on false = true) → Alike2 o (stL l 0 (fun i => listed.getD i false) vs a) (stL l 0 (depsB md o) vs a) ∧ wpList P #[o] (fun e c w' => e = .normal ∧ ∃ v, c = (stL l 0 (depsB md o) vs a).put o.dst v ∧ (F j v w' ∧ G j v w w')) [o] (stL l 0 (depsB md o) vs a) w := by
        intro j o hjN ho h2
        obtain ⟨_, _, hdep, hall⟩ := growB_spec hB ho
        have hdl : ∀ i, depsB md o i = true → listed.getD i false = true := fun i hi => by
          obtain ⟨e, he, hb, rfl⟩ := depsB_mem hi
          exact h2 e he hb
        have hdN : ∀ i, depsB md o i = true → i < N := fun i hi => by
          obtain ⟨e, he, hb, rfl⟩ := depsB_mem hi
          have := hdep e he hb
          omega
        have hstep := stepsL3_at (l.take N) 0 j o hs (by rw [List.getElem?_take, if_pos hjN]; exact ho) vs w hC (fun i hi => hF i (hdN i hi) (hdl i hi)) (fun i i' hi hi' hne => hP i i' (hdN i hi) (hdN i' hi') hne (hdl i hi) (hdl i' hi'))
        rw [Nat.zero_add] at hstep
        refine ⟨stL_alike l 0 _ _ vs a a (fun i o' hi hne d hd => ?_) ⟨rfl, fun _ _ => rfl⟩, hstep⟩
        rw [Nat.zero_add] at hne
        refine (hall i o' hi).2.1 ?_ d hd
        cases hdp : depsB md o i with
        | false => rfl
        | true => rw [hdl i hdp, hdp] at hne; exact absurd rfl hne
      by_cases hlag : ∀ i o, i < N → l[i]? = some o → listed.getD i false = false → lagB o = true
      · -- only such as look at the frame alone are left: the least one is taken first
        obtain ⟨hg, hdst, hdep, hall⟩ := growB_spec hB hom
        have h2 : ∀ e ∈ om.after, Region.binds md e = true → listed.getD e.on false = true := fun e he hb => hmin e.on (hdep e he hb)
        obtain ⟨hal, hstep⟩ := step m om hmN hom h2
        have hsm : ∀ cs b, om.op ≠ .select cs b := fun cs b => hsel m om cs b (by simpa using hom)
        have hw1 : Region.wanted om (yielded #[om] (stL l 0 (depsB md om) vs a).tmps) = true := by simp [Region.wanted, hg]
        simp only [wpList, hw1, if_true] at hstep
        rcases hstep with hstep | ⟨_, _, _, hstep, _⟩
        · unfold Oper.wp at hstep
          obtain ⟨v, hup, hrun⟩ := lag_run (R := fun r => om.upon P (stL l 0 (depsB md om) vs a) _ _ r) (hlag m om hmN hom hmun) hstep (fun x w' hx => by
            cases x with
            | panic v => exact absurd hx.1 (by simp)
            | _ => exact absurd hx (by simp [Oper.upon]))
          obtain ⟨_, v', e, hFv, hG⟩ := hup
          have e2 := put_det (b := stL l 0 (fun i => listed.getD i false) vs a) hal.1 (fun d hd => by rw [stL_size]; exact hdst d hd) e
          have hrun2 : ∀ w', (execOp (stL l 0 (fun i => listed.getD i false) vs a).eval om).run P w' = .ok (.value v) w' := fun w' => by
            rw [execOp_congr om hsm (fun x hx => hal.2 x hx)]; exact hrun w'
          refine wpAny_first (i := m) (oi := om) (v := v) (by simpa using hom) hsel (fun c a w h => absurd h (hQ _ _ _)) fuel listed _ w (fun j oj hj hne hun hno => ?_) hready (.inl ⟨by simp [Region.wanted, hg], hrun2⟩) ?_
          · have hj' : l[j]? = some oj := by simpa using hj
            have hjl := (List.getElem?_eq_some_iff.1 hj').1
            obtain ⟨hgj, _, _, hallj⟩ := growB_spec hB hj'
            have hjm : depsB md oj m = false := by
              cases hdp : depsB md oj m with
              | false => rfl
              | true =>
                obtain ⟨e, he, hb, h⟩ := depsB_mem hdp
                exact absurd h (hno e he hb)
            have hmj : depsB md om j = false := by
              cases hdp : depsB md om j with
              | false => rfl
              | true =>
                obtain ⟨e, he, hb, h⟩ := depsB_mem hdp
                have h3 := h2 e he hb
                rw [h, ← hgt j hjl true, hun] at h3; cases h3
            have looks : ∀ (o : Oper) (d : Tmp), o.guard = none → .tmp d ∉ o.op.operands → d ∉ o.looksAt l.toArray := fun o d hg hn hm => by
              unfold Oper.looksAt at hm
              rw [hg] at hm
              simp only [List.append_nil, List.mem_filterMap] at hm
              obtain ⟨x, hx, hx2⟩ := hm
              cases x with
              | tmp t =>
                simp at hx2
                subst hx2
                exact hn (by simpa using hx)
              | _ => simp at hx2
            unfold Oper.apart
            rw [Bool.and_eq_true]
            refine ⟨?_, ?_⟩
            · cases hd : om.dst with
              | none => rfl
              | some d =>
                simp only [Bool.and_eq_true, Bool.not_eq_true']
                refine ⟨?_, ?_⟩
                · have := looks oj d hgj ((hallj m om hom).2.1 hjm d hd)
                  simpa using this
                · have := (hall j oj hj').1 (fun e => hne e.symm) d hd
                  simpa using this
            · cases hd : oj.dst with
              | none => rfl
              | some d =>
                have := looks om d hg ((hall j oj hj').2.1 hmj d hd)
                simpa using this
          · rw [e2]
            exact go m om v' w hmN hom hmun hFv hG
        · exact absurd hstep (by simp)
      · have hlag2 : ∃ i o, i < N ∧ l[i]? = some o ∧ listed.getD i false = false ∧ lagB o = false := Classical.byContradiction fun hc => hlag fun i o h1 h2 h3 => by
          cases h4 : lagB o with
          | true => rfl
          | false => exact absurd ⟨i, o, h1, h2, h3, h4⟩ hc
        obtain ⟨i0, o0, hi0, ho0, hun0, hl0⟩ := hlag2
        refine ⟨fun h0 => absurd hready (by rw [h0]; simp), fun j hj => ?_⟩
        obtain ⟨h1, o, ho', h2⟩ := mem_ready.1 hj
        have ho : l[j]? = some o := by simpa using ho'
        have hlt := (List.getElem?_eq_some_iff.1 ho).1
        rw [hgt j hlt] at h1
        obtain ⟨hg, hdst, hdep, hall⟩ := growB_spec hB ho
        have hjN : j < N := by
          rcases Nat.lt_or_ge j N with h | h
          · exact h
          · rcases (hall i0 o0 ho0).2.2 h (by omega) with h3 | h3
            · obtain ⟨e, he, hb, rfl⟩ := depsB_mem h3
              rw [h2 e he hb] at hun0; cases hun0
            · rw [hl0] at h3; exact absurd h3.2 (by simp)
        obtain ⟨hal, hstep⟩ := step j o hjN ho h2
        have hw : Region.wanted o (yielded l.toArray (stL l 0 (fun i => listed.getD i false) vs a).tmps) = true := by simp [Region.wanted, hg]
        unfold wpOp
        simp only [ho', hw, if_true]
        left
        exact wp_move_frame hg (fun cs b => hsel j o cs b ho') hal (fun d hd => by rw [stL_size]; exact hdst d hd) hstep (fun v w' h => go j o v w' hjN ho h1 h.1 h.2)
end
theorem wp_region_grow3 {P : Program} {id : Nat} {Q : Exit → Act → World → Prop} {a : Act} {w : World} {l : List Oper} (N : Nat) (C : World → Prop) (G : Nat → Value → World → World → Prop) (F : Nat → Value → World → Prop) (hm : P.follows .mixedOrders = true) (hB : growB .any N a.tmps.size l = true)
    (hC : C w.drew) (hst : ∀ j x w w', C w → G j x w w' → C w' ∧ ∀ i, i < N → ∀ v, F i v w → F i v w') (hs : stepsL3 P .any l a C G F 0 (l.take N))
    (hf : ∀ vs w', C w' → (∀ i, i < N → F i (vs i) w') → (∀ i j, i < N → j < N → i ≠ j → Prior F G i j (vs i) (vs j) ∨ Prior F G j i (vs j) (vs i)) → wpList P l.toArray (fun e b w => e = .normal ∧ Q .normal b w) (l.drop N) (stL l 0 (fun i => decide (i < N)) vs a) w') : (Code.region id l.toArray true).wp P Q a w := by
  refine Code.wp_mono (Q := fun e b w => e = .normal ∧ Q .normal b w) (fun e b w h => by obtain ⟨rfl, h⟩ := h; exact h) ?_
  refine wp_region_any hm ?_
  have h0 : stL l 0 (fun i => (Array.replicate l.toArray.size false).getD i false) (fun _ => undef) a = a := by
    rw [stL_congr l 0 _ (fun _ => false) (fun _ => undef) (fun _ => undef) a (fun i _ hi => ⟨by simp [Array.getD_eq_getD_getElem?, Array.getElem?_replicate]; split <;> rfl, fun _ => rfl⟩)]
    exact stL_none _ _ _ _
  have := wpAny_grow3 (Q := fun e b w => e = .normal ∧ Q .normal b w) (C := C) (G := G) (F := F) (fun c a w h => absurd h.1 (by simp)) hB hst hs hf l.toArray.size (Array.replicate l.toArray.size false) w.drew (fun _ => undef) (by
    rw [List.countP_eq_length.2 (fun i hi => by simp [Array.getD_eq_getD_getElem?, Array.getElem?_replicate]; split <;> rfl)]
    simp) (by simp) (fun i hi _ => by simp [Array.getD_eq_getD_getElem?, Array.getElem?_replicate]; split <;> rfl) hC (fun i _ h => by
      simp [Array.getD_eq_getD_getElem?, Array.getElem?_replicate] at h
      split at h <;> simp at h) (fun i j _ _ _ h => by
      simp [Array.getD_eq_getD_getElem?, Array.getElem?_replicate] at h
      split at h <;> simp at h)
  rw [h0] at this
  exact this
end Go.Proofs.YtgdccmmcjicgkaaDoor
end
section
namespace Go.Proofs.YtgdccmmcjicgkaaDoor
open Go.RowKit
def lenOf : Value → Nat
  | .slice _ n _ => n
  | _ => 0
end Go.Proofs.YtgdccmmcjicgkaaDoor
end
section
namespace Go.Proofs.YtgdccmmcjicgkaaDoor
open Go.RowKit
def litI (w : World) (l : List Ins) : World := w.alloc (.cells ((l.flatMap encI).map (Value.int .i64)).toArray 24)
theorem InsAt.lit {w : World} {l : List Ins} (hl : ∀ i ∈ l, i.ok) : InsAt (litI w l) (some ⟨w.heap.size, 0, none⟩) l := fun k i hk => by
  refine ⟨_, rfl, rfl, by unfold litI; simp, fun j v hj => ?_, hl i (List.mem_of_getElem? hk)⟩
  have hj4 : j < 4 := (List.getElem?_eq_some_iff.1 hj).1
  have hb := Box.new (w := w) (vs := ((l.flatMap encI).map (Value.int .i64)).toArray) (t := 24) (g := w.heap.size) rfl
  have h2 := hb.2.1 (k * 4 + j)
  rw [show (⟨w.heap.size, 0, none⟩ : Addr).off + k * 4 + j = k * 4 + j by show 0 + k * 4 + j = _; omega]
  exact h2.trans ((flatI_get hk hj4).trans hj)
theorem litI_below (w : World) (l : List Ins) : Below w.heap.size w (litI w l) := (Below.refl _ _).alloc (Nat.le_refl _) _
theorem bld_ins4 {ops : Array Oper} {rest : List Oper} {o : Oper} {a : Act} {Q : Exit → Act → World → Prop} {w : World} (i0 i1 i2 i3 : Ins) (hgd : o.guard = none) (x0 x1 x2 x3 : Operand) (ho : o.op = .buildSlice 22 4 #[(0, x0), (1, x1), (2, x2), (3, x3)]) (h0 : a.eval x0 = i0.v) (h1 : a.eval x1 = i1.v) (h2 : a.eval x2 = i2.v) (h3 : a.eval x3 = i3.v)
    (h : wpList Tryd.prog ops Q rest (a.put o.dst (.slice (some ⟨w.heap.size, 0, none⟩) 4 4)) (litI w [i0, i1, i2, i3])) : wpList Tryd.prog ops Q (o :: rest) a w :=
  wp_bldS hgd 22 24 4 _ ho und_ins 4 size_ins (by decide) (by decide) _ rfl (by show builtS Tryd.prog 24 4 [(0, a.eval x0), (1, a.eval x1), (2, a.eval x2), (3, a.eval x3)] = _; rw [h0, h1, h2, h3]; kernel_rfl) h
end Go.Proofs.YtgdccmmcjicgkaaDoor
end
