/- Programs of the processor in plain terms: what is valid, and what Check returns. No program in sight. -/
import Derived.Test.YtpmbgcfnehplaaaDoorE23
import Derived.Test.YtpmbgcfnehplaaaDoorE7
set_option linter.unusedVariables false
set_option linter.unusedSimpArgs false
namespace Go.Proofs.YtpmbgcfnehplaaaDoor
open Go.RowKit

def ringIn (x : Int × Int) : Bool := decide (1 ≤ x.2 ∧ x.2 ≤ 128 ∧ 0 ≤ x.1 ∧ x.1 ≤ 128 - x.2)
def inR (m : Int) (x : Int × Int) : Bool := decide (x.1 ≤ m ∧ m < x.1 + x.2)
def usdB (rg : List (Int × Int)) (m : Int) : Bool := rg.any (inR m)
def clash (x y : Int × Int) : Bool := decide (x.1 < y.1 + y.2 ∧ y.1 < x.1 + x.2)
/-- The first k buffers lie in the memory without touching. -/
def ringsK (rg : List (Int × Int)) : Nat → Bool
  | 0 => true
  | k + 1 => ringsK rg k && (ringIn (rg.getD k (0, 0)) && !(rg.take k).any (clash (rg.getD k (0, 0))))
def ringsB (rg : List (Int × Int)) : Bool := decide (rg.length ≤ 8) && ringsK rg rg.length
/-- i suits the buffers and formats of d. -/
def fitI (d : PrgD) (i : Ins) : Bool :=
  (if i.op = 4 then decide (i.a < d.rg.length) && decide (i.b < (d.rg.getD i.a.toNat (0, 0)).2) else if i.op = 8 then decide (i.a < d.rg.length)
   else if i.op = 3 then !usdB d.rg i.a else if i.op = 6 ∨ i.op = 7 then !usdB d.rg i.b else true)
  && (if i.op = 2 ∨ i.op = 3 ∨ i.op = 4 then fitsW d.c0 d.c1 d.c2 d.c3 i.imm || decide (i.imm = 2 ^ d.c1.toNat) else true)
def suitB (d : PrgD) (i : Ins) : Bool := i.formed && fitI d i
def okWD (d : PrgD) : Bool := okW d.d0 d.d1 d.d2 d.d3 && okW d.c0 d.c1 d.c2 d.c3
/-- The instruction at k can stand there. -/
def goodAt (d : PrgD) (k : Nat) : Bool := suitB d (d.code.getD k Ins.zero) && (decide ((d.code.getD k Ins.zero).op = 0) == decide (k + 1 = d.code.length))
def chkF (d : PrgD) : Int × Int :=
  if okWD d = false then (-1, 2) else if ringsB d.rg = false then (-1, 23) else if inB d.code.length 1 512 = false then (-1, 5)
  else match (List.range d.code.length).find? (fun k => !goodAt d k) with
    | some k => ((k : Int), 21)
    | none => (-1, 0)
def validB (d : PrgD) : Bool := okWD d && (ringsB d.rg && (inB d.code.length 1 512 && (List.range d.code.length).all (goodAt d)))

theorem find_range {p : Nat → Bool} {n k : Nat} (hk : k < n) (h : ∀ j, j < k → p j = false) (hp : p k = true) : (List.range n).find? p = some k := by
  rw [List.find?_range_eq_some]
  exact ⟨hp, List.mem_range.2 hk, fun j hj => by rw [h j hj]; rfl⟩
theorem find_none {p : Nat → Bool} {n : Nat} (h : ∀ j, j < n → p j = false) : (List.range n).find? p = none := by
  rw [List.find?_eq_none]
  intro j hj
  rw [h j (List.mem_range.1 hj)]; simp
theorem chk_words {d : PrgD} (h : okWD d = false) : chkF d = (-1, 2) := by unfold chkF; rw [if_pos h]
theorem chk_rings {d : PrgD} (h : okWD d = true) (h1 : ringsB d.rg = false) : chkF d = (-1, 23) := by unfold chkF; rw [if_neg (by rw [h]; decide), if_pos h1]
theorem chk_many {d : PrgD} (h : okWD d = true) (h1 : ringsB d.rg = true) (h2 : inB d.code.length 1 512 = false) : chkF d = (-1, 5) := by
  unfold chkF; rw [if_neg (by rw [h]; decide), if_neg (by rw [h1]; decide), if_pos h2]
theorem chk_at {d : PrgD} (h : okWD d = true) (h1 : ringsB d.rg = true) (h2 : inB d.code.length 1 512 = true) {k : Nat} (hk : k < d.code.length) (hg : ∀ j, j < k → goodAt d j = true) (hb : goodAt d k = false) : chkF d = ((k : Int), 21) := by
  unfold chkF
  rw [if_neg (by rw [h]; decide), if_neg (by rw [h1]; decide), if_neg (by rw [h2]; decide), find_range (p := fun k => !goodAt d k) hk (fun j hj => by rw [hg j hj]; rfl) (by rw [hb]; rfl)]
theorem chk_ok {d : PrgD} (h : okWD d = true) (h1 : ringsB d.rg = true) (h2 : inB d.code.length 1 512 = true) (hg : ∀ j, j < d.code.length → goodAt d j = true) : chkF d = (-1, 0) := by
  unfold chkF
  rw [if_neg (by rw [h]; decide), if_neg (by rw [h1]; decide), if_neg (by rw [h2]; decide), find_none (p := fun k => !goodAt d k) (fun j hj => by rw [hg j hj]; rfl)]
theorem chk_valid (d : PrgD) : decide ((chkF d).2 = 0) = validB d := by
  unfold validB
  rcases Bool.eq_false_or_eq_true (okWD d) with h | h
  · rcases Bool.eq_false_or_eq_true (ringsB d.rg) with h1 | h1
    · rcases Bool.eq_false_or_eq_true (inB d.code.length 1 512) with h2 | h2
      · rw [h, h1, h2]
        by_cases hg : ∀ j, j < d.code.length → goodAt d j = true
        · rw [chk_ok h h1 h2 hg]
          simp only [Bool.true_and]
          exact (List.all_eq_true.2 fun j hj => hg j (List.mem_range.1 hj)).symm
        · unfold chkF
          rw [if_neg (by rw [h]; decide), if_neg (by rw [h1]; decide), if_neg (by rw [h2]; decide)]
          cases e : (List.range d.code.length).find? (fun k => !goodAt d k) with
          | none =>
            rw [List.find?_eq_none] at e
            exact absurd (fun j hj => by have := e j (List.mem_range.2 hj); simpa using this) hg
          | some k =>
            have h3 := List.find?_some e
            have h4 := List.mem_of_find?_eq_some e
            simp only [Bool.true_and]
            symm
            show _ = false
            rw [List.all_eq_false]
            exact ⟨k, h4, by simpa using h3⟩
      · rw [chk_many h h1 h2, h2]; simp
    · rw [chk_rings h h1, h1]; simp
  · rw [chk_words h, h]; simp
theorem valid_parts {d : PrgD} (h : validB d = true) : okWD d = true ∧ ringsB d.rg = true ∧ (1 ≤ d.code.length ∧ d.code.length ≤ 512) ∧ ∀ j, j < d.code.length → goodAt d j = true := by
  unfold validB at h
  simp only [Bool.and_eq_true] at h
  obtain ⟨h1, h2, h3, h4⟩ := h
  rw [inB_iff] at h3
  exact ⟨h1, h2, by omega, fun j hj => List.all_eq_true.1 h4 j (List.mem_range.2 hj)⟩
theorem valid_chk {d : PrgD} (h : validB d = true) : chkF d = (-1, 0) := by
  obtain ⟨h1, h2, h3, h4⟩ := valid_parts h
  exact chk_ok h1 h2 (inB_iff.2 (by omega)) h4
/-! ### Marks of memory words -/
theorem inR_iff {m : Int} {x : Int × Int} : inR m x = true ↔ x.1 ≤ m ∧ m < x.1 + x.2 := by unfold inR; rw [decide_eq_true_eq]
theorem ringIn_iff {x : Int × Int} : ringIn x = true ↔ 1 ≤ x.2 ∧ x.2 ≤ 128 ∧ 0 ≤ x.1 ∧ x.1 ≤ 128 - x.2 := by unfold ringIn; rw [decide_eq_true_eq]
theorem clash_iff {x y : Int × Int} : clash x y = true ↔ x.1 < y.1 + y.2 ∧ y.1 < x.1 + x.2 := by unfold clash; rw [decide_eq_true_eq]
/-- A buffer clashes with one of l just if one of its words is used. -/
theorem clash_used {x : Int × Int} {l : List (Int × Int)} (hx : 1 ≤ x.2) (hl : ∀ y ∈ l, 1 ≤ y.2) : l.any (clash x) = true ↔ ∃ k : Nat, (k : Int) < x.2 ∧ usdB l (x.1 + k) = true := by
  unfold usdB
  constructor
  · intro h
    obtain ⟨y, hy, hc⟩ := List.any_eq_true.1 h
    rw [clash_iff] at hc
    have := hl y hy
    refine ⟨(max y.1 x.1 - x.1).toNat, by omega, List.any_eq_true.2 ⟨y, hy, inR_iff.2 (by omega)⟩⟩
  · rintro ⟨k, hk, h⟩
    obtain ⟨y, hy, hc⟩ := List.any_eq_true.1 h
    rw [inR_iff] at hc
    exact List.any_eq_true.2 ⟨y, hy, clash_iff.2 (by omega)⟩
theorem ringsK_all {rg : List (Int × Int)} : ∀ {k : Nat}, ringsK rg k = true → k ≤ rg.length → ∀ y ∈ rg.take k, ringIn y = true
  | 0, _, _ => by simp
  | k + 1, h, hk => fun y hy => by
    unfold ringsK at h
    simp only [Bool.and_eq_true] at h
    have e : rg.take (k + 1) = rg.take k ++ [rg.getD k (0, 0)] := by
      rw [List.take_succ_eq_append_getElem (show k < rg.length by omega), List.getD_eq_getElem?_getD, List.getElem?_eq_getElem (show k < rg.length by omega)]; rfl
    rw [e] at hy
    rcases List.mem_append.1 hy with h2 | h2
    · exact ringsK_all h.1 (by omega) y h2
    · rw [List.mem_singleton.1 h2]; exact h.2.1
theorem ringsK_le {rg : List (Int × Int)} : ∀ {k j : Nat}, j ≤ k → ringsK rg k = true → ringsK rg j = true
  | 0, j, hj, h => by obtain rfl : j = 0 := by omega
                      exact h
  | k + 1, j, hj, h => by
    by_cases e : j = k + 1
    · rw [e]; exact h
    · unfold ringsK at h
      rw [Bool.and_eq_true] at h
      exact ringsK_le (by omega) h.1
theorem ringsB_no {rg : List (Int × Int)} {k : Nat} (hk : k ≤ rg.length) (h : ringsK rg k = false) : ringsB rg = false := by
  unfold ringsB
  rcases Bool.eq_false_or_eq_true (ringsK rg rg.length) with h1 | h1
  · rw [ringsK_le hk h1] at h; cases h
  · rw [h1, Bool.and_false]
/-- The memory words that are marked when the words from x.1 to x.1 + k are marked beside those of l. -/
def markF (l : List (Int × Int)) (b : Int) (k : Nat) : List Bool := (List.range 128).map fun (j : Nat) => usdB l j || inR j (b, (k : Int))
theorem markF_len (l : List (Int × Int)) (b : Int) (k : Nat) : (markF l b k).length = 128 := by simp [markF]
theorem markF_zero (l : List (Int × Int)) (b b' : Int) : markF l b 0 = markF l b' 0 := by
  unfold markF
  refine List.map_congr_left fun j _ => ?_
  have e : ∀ c : Int, inR j (c, ((0 : Nat) : Int)) = false := fun c => by
    unfold inR; rw [decide_eq_false_iff_not]; simp only; omega
  rw [e, e]
theorem markF_get {l : List (Int × Int)} {b : Int} {k : Nat} {j : Nat} (hj : j < 128) : (markF l b k)[j]? = some (usdB l j || inR j (b, (k : Int))) := by
  unfold markF
  rw [List.getElem?_map, List.getElem?_range hj]; rfl
theorem markF_next {l : List (Int × Int)} {b : Int} {k m : Nat} (hm : b + k = m) (h : m < 128) : (markF l b k).set m true = markF l b (k + 1) := by
  apply List.ext_getElem?
  intro j
  rw [List.getElem?_set, markF_len]
  by_cases hj : j < 128
  · rw [markF_get hj, markF_get hj]
    by_cases e : m = j
    · subst e
      rw [if_pos rfl, if_pos h]
      have e1 : inR (m : Int) (b, ((k + 1 : Nat) : Int)) = true := inR_iff.2 (by simp only; omega)
      rw [e1, Bool.or_true]
    · rw [if_neg e]
      have e1 : inR (j : Int) (b, ((k + 1 : Nat) : Int)) = inR (j : Int) (b, (k : Int)) := by
        unfold inR
        rw [decide_eq_decide]
        simp only; omega
      rw [e1]
  · have e0 : (markF l b k)[j]? = none := List.getElem?_eq_none (by rw [markF_len]; omega)
    have e1 : (markF l b (k + 1))[j]? = none := List.getElem?_eq_none (by rw [markF_len]; omega)
    rw [e0, e1]
    rw [if_neg (by omega)]
theorem markF_ring {l : List (Int × Int)} {x : Int × Int} {b : Int} {n : Nat} (hn : x.2 = n) : markF l x.1 n = markF (l ++ [x]) b 0 := by
  unfold markF
  refine List.map_congr_left fun j _ => ?_
  have e : inR j (b, ((0 : Nat) : Int)) = false := by
    unfold inR; rw [decide_eq_false_iff_not]; simp only; omega
  rw [e]
  unfold usdB
  rw [List.any_append, Bool.or_false, List.any_cons, List.any_nil, Bool.or_false, ← hn]
theorem used_all {rg : List (Int × Int)} {j : Nat} {b : Int} (hj : j < 128) : (markF rg b 0)[j]? = some (usdB rg j) := by
  rw [markF_get hj]
  have e : inR j (b, ((0 : Nat) : Int)) = false := by
    unfold inR; rw [decide_eq_false_iff_not]; simp only; omega
  rw [e, Bool.or_false]
end Go.Proofs.YtpmbgcfnehplaaaDoor
