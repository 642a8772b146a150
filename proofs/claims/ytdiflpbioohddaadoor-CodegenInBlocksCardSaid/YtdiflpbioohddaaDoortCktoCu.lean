/- Several texts in one: Ck Ct Cu. -/
import Derived.Test.YtdiflpbioohddaaDoortU5toS3
import Derived.Test.YtdiflpbioohddaaDoortU2toCr
import Derived.Test.YtdiflpbioohddaaDoortE1toI0
set_option linter.unusedVariables false
set_option linter.unusedSimpArgs false
section
namespace Go.Proofs.YtdiflpbioohddaaDoor
theorem map_range_set {n k : Nat} {f g : Nat → Bool} (hk : k < n) (h : ∀ i, i < n → i ≠ k → g i = f i) : (List.range n).map g = ((List.range n).map f).set k (g k) := by
 apply List.ext_getElem?
 intro i
 by_cases hi : i < n
 ·by_cases e : i = k
  ·subst e
   rw [List.getElem?_set_self (by simpa using hi), List.getElem?_map, List.getElem?_range hi]; rfl
  ·rw [List.getElem?_set_ne (fun h => e h.symm), List.getElem?_map, List.getElem?_map, List.getElem?_range hi]
   show some (g i) = some (f i)
   rw [h i hi e]
 ·rw [List.getElem?_eq_none (by simp; omega), List.getElem?_eq_none (by simp; omega)]
theorem map_range_same {n : Nat} {f g : Nat → Bool} (h : ∀ i, i < n → g i = f i) : (List.range n).map g = (List.range n).map f := by
 apply List.map_congr_left
 intro i hi
 exact h i (List.mem_range.1 hi)
def pendK (src : List Int) (k : Nat) : List Bool := (List.range src.length).map fun i => decide (i < k) && decide (src.getD i 0 ≠ (i : Int) + 1)
theorem pendK_zero (src : List Int) : pendK src 0 = List.replicate src.length false := by
 refine List.eq_replicate_iff.2 ⟨by unfold pendK; simp, fun b hb => ?_⟩
 unfold pendK at hb
 obtain ⟨i, -, rfl⟩ := List.mem_map.1 hb
 rw [decide_eq_false (Nat.not_lt_zero i)]; rfl
theorem pendK_len (src : List Int) (k : Nat) : (pendK src k).length = src.length := by unfold pendK; simp
theorem pendK_all (src : List Int) : pendK src src.length = pend0 src := by
 unfold pendK pend0
 exact map_range_same fun i hi => by simp [hi]
theorem pendK_hit {src : List Int} {k : Nat} (hk : k < src.length) (h : src.getD k 0 ≠ (k : Int) + 1) : pendK src (k + 1) = (pendK src k).set k true := by
 unfold pendK
 have e := map_range_set (n := src.length) (k := k) (f := fun i => decide (i < k) && decide (src.getD i 0 ≠ (i : Int) + 1)) (g := fun i => decide (i < k + 1) && decide (src.getD i 0 ≠ (i : Int) + 1)) hk (fun i _ hi => by
  have : (i < k + 1) ↔ (i < k) := by omega
  simp only [this])
 rw [e]
 have : (decide (k < k + 1) && decide (src.getD k 0 ≠ (k : Int) + 1)) = true := by
  rw [decide_eq_true (Nat.lt_succ_self k), decide_eq_true h]; rfl
 rw [this]
theorem pendK_miss {src : List Int} {k : Nat} (h : src.getD k 0 = (k : Int) + 1) : pendK src (k + 1) = pendK src k := by
 unfold pendK
 refine map_range_same fun i _ => ?_
 by_cases e : i = k
 ·subst e
  have h1 : decide (src.getD i 0 ≠ (i : Int) + 1) = false := decide_eq_false (fun hn => hn h)
  rw [h1, Bool.and_false, Bool.and_false]
 ·have : (i < k + 1) ↔ (i < k) := by omega
  simp only [this]
theorem pendK_at {src : List Int} {k : Nat} (hk : k < src.length) : (pendK src k).getD k false = false := by
 unfold pendK
 rw [getD_mapR hk]
 simp
theorem count_mark {l : List Bool} {k : Nat} (hk : k < l.length) (h : l.getD k false = false) : (l.set k true).count true = l.count true + 1 := by
 induction l generalizing k with
 | nil => simp at hk
 | cons a l ih =>
  cases k with
  | zero =>
   have : a = false := by simpa using h
   subst this
   simp
  | succ k =>
   have := ih (k := k) (by simpa using hk) (by simpa using h)
   rw [List.set_cons_succ, List.count_cons, List.count_cons]
   omega
def savK (src : List Int) (s : AdvS) (k j : Nat) : List Bool := (List.range src.length).map fun i => s.saved.getD i false || (decide (i < j) && (s.pend.getD i false && decide (src.getD i 0 = (k : Int) + 1)))
theorem savK_len (src : List Int) (s : AdvS) (k j : Nat) : (savK src s k j).length = src.length := by unfold savK; simp
theorem savK_zero {src : List Int} {s : AdvS} (hw : AdvW src s) (k : Nat) : savK src s k 0 = s.saved := by
 apply List.ext_getElem?
 intro i
 by_cases hi : i < src.length
 ·unfold savK
  rw [List.getElem?_map, List.getElem?_range hi]
  show some (s.saved.getD i false || (decide (i < 0) && _)) = _
  have hi' : i < s.saved.length := by rw [hw.sl]; exact hi
  rw [decide_eq_false (Nat.not_lt_zero i), Bool.false_and, Bool.or_false, List.getD_eq_getElem?_getD, List.getElem?_eq_getElem hi']; rfl
 ·rw [List.getElem?_eq_none (by rw [savK_len]; omega), List.getElem?_eq_none (by rw [hw.sl]; omega)]
theorem savK_all {src : List Int} {s : AdvS} (k : Nat) : savK src s k src.length = (brkS src s k).saved := by
 unfold savK
 show _ = (List.range src.length).map _
 exact map_range_same fun i hi => by simp [hi]
theorem savK_hit {src : List Int} {s : AdvS} {k j : Nat} (hj : j < src.length) (hp : s.pend.getD j false = true) (h : src.getD j 0 = (k : Int) + 1) : savK src s k (j + 1) = (savK src s k j).set j true := by
 unfold savK
 have e := map_range_set (n := src.length) (k := j) (f := fun i => s.saved.getD i false || (decide (i < j) && (s.pend.getD i false && decide (src.getD i 0 = (k : Int) + 1)))) (g := fun i => s.saved.getD i false || (decide (i < j + 1) && (s.pend.getD i false && decide (src.getD i 0 = (k : Int) + 1)))) hj (fun i _ hi => by
  have : (i < j + 1) ↔ (i < j) := by omega
  simp only [this])
 rw [e]
 have : (s.saved.getD j false || (decide (j < j + 1) && (s.pend.getD j false && decide (src.getD j 0 = (k : Int) + 1)))) = true := by
  rw [decide_eq_true (Nat.lt_succ_self j), hp, decide_eq_true h]; simp
 rw [this]
theorem savK_miss {src : List Int} {s : AdvS} {k j : Nat} (h : ¬ (s.pend.getD j false = true ∧ src.getD j 0 = (k : Int) + 1)) : savK src s k (j + 1) = savK src s k j := by
 unfold savK
 refine map_range_same fun i _ => ?_
 by_cases e : i = j
 ·subst e
  have h1 : (s.pend.getD i false && decide (src.getD i 0 = (k : Int) + 1)) = false := by
   cases hp : s.pend.getD i false with
   | false => rfl
   | true =>
    rw [Bool.true_and]
    exact decide_eq_false fun he => h ⟨hp, he⟩
  rw [h1, Bool.and_false, Bool.and_false]
 ·have : (i < j + 1) ↔ (i < j) := by omega
  simp only [this]
theorem needB_hit {src : List Int} {s : AdvS} {k j : Nat} (hj : j < src.length) (hp : s.pend.getD j false = true) (hs : s.saved.getD j false = false) (h : src.getD j 0 = (k : Int) + 1) : needB src s k = true :=
 List.any_eq_true.2 ⟨j, List.mem_range.2 hj, by rw [hp, hs, decide_eq_true h]; rfl⟩
theorem needB_none {src : List Int} {s : AdvS} {k : Nat} (h : ∀ j, j < src.length → ¬ (s.pend.getD j false = true ∧ s.saved.getD j false = false ∧ src.getD j 0 = (k : Int) + 1)) : needB src s k = false := by
 unfold needB
 rw [List.any_eq_false]
 intro j hj he
 simp only [Bool.and_eq_true, Bool.not_eq_true', decide_eq_true_eq] at he
 exact h j (List.mem_range.1 hj) he
theorem firstP_is {s : AdvS} {k : Nat} (hk : s.pend.getD k false = true) (h : ∀ j, j < k → s.pend.getD j false = false) : firstP s = k := by
 have hlt : k < s.pend.length := by
  rcases Nat.lt_or_ge k s.pend.length with h1 | h1
  ·exact h1
  ·rw [List.getD_eq_getElem?_getD, List.getElem?_eq_none h1] at hk; cases hk
 unfold firstP
 rw [List.findIdx_eq hlt]
 refine ⟨?_, fun j hj => ?_⟩
 ·rw [List.getD_eq_getElem?_getD, List.getElem?_eq_getElem hlt] at hk; exact hk
 ·have := h j hj
  rw [List.getD_eq_getElem?_getD, List.getElem?_eq_getElem (by omega)] at this; exact this
theorem try_no {src : List Int} {s : AdvS} {k : Nat} (h : canB src s k = false) : tryS src s k = s := by
 unfold tryS; rw [if_neg (by rw [h]; decide)]
theorem try_yes {src : List Int} {s : AdvS} {k : Nat} (h : canB src s k = true) : tryS src s k = moveS src s k := by
 unfold tryS; rw [if_pos h]
end Go.Proofs.YtdiflpbioohddaaDoor
end
section
namespace Go.Proofs.YtdiflpbioohddaaDoor
open Go.RowKit
theorem move_len {src : List Int} {s : AdvS} {k : Nat} : (moveS src s k).code.length ≤ s.code.length + 2 := by
 unfold moveS
 split
 ·simp
 ·simp only [List.length_append, List.length_cons, List.length_nil]
  have : (fetchI (src.getD k 0) s.last).length ≤ 1 := by unfold fetchI; split <;> simp
  omega
theorem try_len {src : List Int} {s : AdvS} {k : Nat} : (tryS src s k).code.length + 2 * (tryS src s k).left ≤ s.code.length + 2 * s.left := by
 unfold tryS
 split
 ·rename_i h
  have h1 := move_left (src := src) (canB_pend h)
  have h2 := move_len (src := src) (s := s) (k := k)
  omega
 ·exact Nat.le_refl _
theorem pass_len {src : List Int} {s : AdvS} : ∀ k, (passS src s k).code.length + 2 * (passS src s k).left ≤ s.code.length + 2 * s.left
 | 0 => Nat.le_refl _
 | k + 1 => Nat.le_trans try_len (pass_len k)
theorem advM_hi {src : List Int} {s : AdvS} : advM src s ≤ 2 * s.left + 1 := by unfold advM; split <;> omega
theorem advM_lo {src : List Int} {s : AdvS} : 2 * s.left ≤ advM src s := by unfold advM; omega
theorem round_len {src : List Int} {s : AdvS} (hw : AdvW src s) (h : s.left ≠ 0) : (roundS src s).code.length + 3 * advM src (roundS src s) ≤ s.code.length + 3 * advM src s := by
 have hr := round_less hw h
 unfold roundS at hr ⊢
 split
 ·rename_i hm
  have h1 := pass_len (src := src) (s := s) src.length
  have h2 := advM_hi (src := src) (s := passS src s src.length)
  have h3 := advM_lo (src := src) (s := s)
  omega
 ·rename_i hm
  rw [if_neg hm] at hr
  have : (brkS src s (firstP s)).code.length = s.code.length + 1 := by unfold brkS; simp
  omega
theorem fetchL_in {v x : Int} (h : 0 ≤ x ∧ x ≤ 6) : 0 ≤ fetchL v x ∧ fetchL v x ≤ 6 := by
 unfold fetchL
 split
 ·exact h
 ·have := nextR_in h.1; omega
theorem left_le {src : List Int} {s : AdvS} (h : AdvW src s) : s.left ≤ src.length := by
 have := count_le (l := s.pend)
 rw [h.pl] at this
 exact this
def boolO (l : List Bool) : Obj := .cells (l.map Value.bool).toArray 4 (0, 0)
def advX (gP gS bX bP bS n : Nat) (SV : Value) (pend saved : List Bool) (Y : List (Nat × Obj)) : List (Nat × Obj) :=
 (gP, boolO pend) :: (gS, boolO saved) :: (bX, .cells #[SV] 25 (0, 0)) :: (bP, .cells #[.slice (some ⟨gP, 0, none⟩) n n] 125 (0, 0)) :: (bS, .cells #[.slice (some ⟨gS, 0, none⟩) n n] 125 (0, 0)) :: Y
structure AdvAt (base B : Nat) (t : TypeId) (nv : List Value) (gP gS bX bP bS : Nat) (SA : Option Addr) (sc : Nat) (Y : List (Nat × Obj)) (src : List Int) (w : World) (v : Value) (s : AdvS) : Prop where
 gen : GenAt base B t (genR nv s.last) (advX gP gS bX bP bS src.length (.slice SA src.length sc) s.pend s.saved Y) w v s.code
 row : ∀ w', (∀ x ∈ Y, w'.heap[x.1]? = some x.2) → Ints w' SA src
 wf : AdvW src s
 la : 0 ≤ s.last ∧ s.last ≤ 6
 gp : base ≤ gP
 gs : base ≤ gS
 d1 : gP ≠ gS ∧ gP ≠ bX ∧ gP ≠ bP ∧ gP ≠ bS ∧ gS ≠ bX ∧ gS ≠ bP ∧ gS ≠ bS
 dY : ∀ x ∈ Y, x.1 ≠ gP ∧ x.1 ≠ gS
theorem boolO_set (l : List Bool) (k : Nat) (b : Bool) : Obj.cells ((l.map Value.bool).toArray.setIfInBounds k (.bool b)) 4 (0, 0) = boolO (l.set k b) := by
 unfold boolO
 rw [List.map_set, List.setIfInBounds_toArray]
theorem GenAt.side' {base B : Nat} {t : TypeId} {R : List Value} {X1 X2 : List (Nat × Obj)} {w : World} {v : Value} {l : List Ins} {k : Nat} {a : Array Value} {s : TypeId} (h : GenAt base B t R (X1 ++ (k, .cells a s (0, 0)) :: X2) w v l) (hX : ∀ x ∈ X1 ++ X2, x.1 ≠ k) (hk : base ≤ k) (j : Nat) (u : Value) :
  GenAt base B t R (X1 ++ (k, .cells (a.setIfInBounds j u) s (0, 0)) :: X2) (w.setCell ⟨k, j, none⟩ u) v l ∧ Below base w (w.setCell ⟨k, j, none⟩ u) := by
 obtain ⟨k1, k2, k3⟩ := h.keep (k, .cells a s (0, 0)) (by simp)
 have hk' : some k ≠ v.ownBlock := row_apart h.own k1 k3
 refine ⟨⟨?_, ⟨ownsRow_setCell_other h.own.1 (fun e => hk' e.symm) _, h.own.2⟩, h.lo, h.typ, fun x hx => ?_⟩, (Below.refl base w).setCell (p := ⟨k, j, none⟩) hk _⟩
 ·rw [Below.heap_setCell _ _ _ _ (fun e => k2 e.symm)]; exact h.heap
 ·have hm : x = (k, .cells (a.setIfInBounds j u) s (0, 0)) ∨ x ∈ X1 ++ X2 := by
   rcases List.mem_append.1 hx with hx | hx
   ·exact .inr (List.mem_append_left _ hx)
   ·rcases List.mem_cons.1 hx with hx | hx
    ·exact .inl hx
    ·exact .inr (List.mem_append_right _ hx)
  rcases hm with rfl | hm
  ·exact ⟨heap_set k1 u, k2, k3⟩
  ·obtain ⟨m1, m2, m3⟩ := h.keep x (by
    rcases List.mem_append.1 hm with hm | hm
    ·exact List.mem_append_left _ hm
    ·exact List.mem_append_right _ (List.mem_cons_of_mem _ hm))
   exact ⟨by rw [Below.heap_setCell _ _ _ _ (hX x hm)]; exact m1, m2, m3⟩
namespace AdvAt
variable {base B : Nat} {t : TypeId} {nv : List Value} {gP gS bX bP bS : Nat} {SA : Option Addr} {sc : Nat} {Y : List (Nat × Obj)} {src : List Int} {w w' : World} {v v' : Value} {s : AdvS}
theorem cells (h : AdvAt base B t nv gP gS bX bP bS SA sc Y src w v s) : w.cell? ⟨bX, 0, none⟩ = some (.slice SA src.length sc) ∧ w.cell? ⟨bP, 0, none⟩ = some (.slice (some ⟨gP, 0, none⟩) src.length src.length) ∧ w.cell? ⟨bS, 0, none⟩ = some (.slice (some ⟨gS, 0, none⟩) src.length src.length) := by
 have k := h.gen.keep
 unfold advX at k
 refine ⟨?_, ?_, ?_⟩
 ·rw [cell_heap (k (bX, .cells #[.slice SA src.length sc] 25 (0, 0)) (by simp)).1]; rfl
 ·rw [cell_heap (k (bP, .cells #[.slice (some ⟨gP, 0, none⟩) src.length src.length] 125 (0, 0)) (by simp)).1]; rfl
 ·rw [cell_heap (k (bS, .cells #[.slice (some ⟨gS, 0, none⟩) src.length src.length] 125 (0, 0)) (by simp)).1]; rfl
theorem lt (h : AdvAt base B t nv gP gS bX bP bS SA sc Y src w v s) : gP < w.heap.size ∧ gS < w.heap.size := by
 have k := h.gen.keep
 unfold advX at k
 exact ⟨lt_heap (k (gP, boolO s.pend) (by simp)).1, lt_heap (k (gS, boolO s.saved) (by simp)).1⟩
theorem pcell (h : AdvAt base B t nv gP gS bX bP bS SA sc Y src w v s) {k : Nat} (hk : k < src.length) {b : Bool} (hb : s.pend.getD k false = b) : w.cell? ⟨gP, k, none⟩ = some (.bool b) := by
 have := (h.gen.keep (gP, boolO s.pend) (by simp [advX])).1
 rw [cell_heap this]
 subst hb
 have hk' : k < s.pend.length := by rw [h.wf.pl]; exact hk
 simp [List.getElem?_eq_getElem hk', List.getD_eq_getElem?_getD]
theorem scell (h : AdvAt base B t nv gP gS bX bP bS SA sc Y src w v s) {k : Nat} (hk : k < src.length) {b : Bool} (hb : s.saved.getD k false = b) : w.cell? ⟨gS, k, none⟩ = some (.bool b) := by
 have := (h.gen.keep (gS, boolO s.saved) (by simp [advX])).1
 rw [cell_heap this]
 subst hb
 have hk' : k < s.saved.length := by rw [h.wf.sl]; exact hk
 simp [List.getElem?_eq_getElem hk', List.getD_eq_getElem?_getD]
theorem pfree (h : AdvAt base B t nv gP gS bX bP bS SA sc Y src w v s) (k : Nat) : w.frozen? ⟨gP, k, none⟩ = false := frozen_heap (h.gen.keep (gP, boolO s.pend) (by simp [advX])).1
theorem sfree (h : AdvAt base B t nv gP gS bX bP bS SA sc Y src w v s) (k : Nat) : w.frozen? ⟨gS, k, none⟩ = false := frozen_heap (h.gen.keep (gS, boolO s.saved) (by simp [advX])).1
theorem ints (h : AdvAt base B t nv gP gS bX bP bS SA sc Y src w v s) : Ints w SA src := h.row w fun x hx => (h.gen.keep x (by simp [advX, hx])).1
theorem keepB (h : AdvAt base B t nv gP gS bX bP bS SA sc Y src w v s) (hb : Below w.heap.size w w') : AdvAt base B t nv gP gS bX bP bS SA sc Y src w' v s := ⟨h.gen.keepB hb, h.row, h.wf, h.la, h.gp, h.gs, h.d1, h.dY⟩
theorem emit (h : AdvAt base B t nv gP gS bX bP bS SA sc Y src w v s) {code : List Ins} {last : Int} (hg : GenAt base B t (genR nv last) (advX gP gS bX bP bS src.length (.slice SA src.length sc) s.pend s.saved Y) w' v' code) (hl : 0 ≤ last ∧ last ≤ 6) :
  AdvAt base B t nv gP gS bX bP bS SA sc Y src w' v' { s with code := code, last := last } := ⟨hg, h.row, ⟨h.wf.pl, h.wf.sl⟩, hl, h.gp, h.gs, h.d1, h.dY⟩
theorem setP (h : AdvAt base B t nv gP gS bX bP bS SA sc Y src w v s) (k : Nat) (b : Bool) : AdvAt base B t nv gP gS bX bP bS SA sc Y src (w.setCell ⟨gP, k, none⟩ (.bool b)) v { s with pend := s.pend.set k b } ∧ Below base w (w.setCell ⟨gP, k, none⟩ (.bool b)) := by
 obtain ⟨d1, d2, d3, d4, d5, d6, d7⟩ := h.d1
 have hg : GenAt base B t (genR nv s.last) ([] ++ (gP, .cells (s.pend.map Value.bool).toArray 4 (0, 0)) :: ((gS, boolO s.saved) :: (bX, .cells #[.slice SA src.length sc] 25 (0, 0)) :: (bP, .cells #[.slice (some ⟨gP, 0, none⟩) src.length src.length] 125 (0, 0)) :: (bS, .cells #[.slice (some ⟨gS, 0, none⟩) src.length src.length] 125 (0, 0)) :: Y)) w v s.code := h.gen
 obtain ⟨g1, g2⟩ := hg.side' (fun x hx => by
  simp only [List.nil_append, List.mem_cons] at hx
  rcases hx with rfl | rfl | rfl | rfl | hx
  ·exact d1.symm
  ·exact d2.symm
  ·exact d3.symm
  ·exact d4.symm
  ·exact (h.dY x hx).1) h.gp k (.bool b)
 rw [boolO_set] at g1
 exact ⟨⟨g1, h.row, ⟨by rw [List.length_set]; exact h.wf.pl, h.wf.sl⟩, h.la, h.gp, h.gs, h.d1, h.dY⟩, g2⟩
theorem setS (h : AdvAt base B t nv gP gS bX bP bS SA sc Y src w v s) (k : Nat) (b : Bool) : AdvAt base B t nv gP gS bX bP bS SA sc Y src (w.setCell ⟨gS, k, none⟩ (.bool b)) v { s with saved := s.saved.set k b } ∧ Below base w (w.setCell ⟨gS, k, none⟩ (.bool b)) := by
 obtain ⟨d1, d2, d3, d4, d5, d6, d7⟩ := h.d1
 have hg : GenAt base B t (genR nv s.last) ([(gP, boolO s.pend)] ++ (gS, .cells (s.saved.map Value.bool).toArray 4 (0, 0)) :: ((bX, .cells #[.slice SA src.length sc] 25 (0, 0)) :: (bP, .cells #[.slice (some ⟨gP, 0, none⟩) src.length src.length] 125 (0, 0)) :: (bS, .cells #[.slice (some ⟨gS, 0, none⟩) src.length src.length] 125 (0, 0)) :: Y)) w v s.code := h.gen
 obtain ⟨g1, g2⟩ := hg.side' (fun x hx => by
  simp only [List.cons_append, List.nil_append, List.mem_cons] at hx
  rcases hx with rfl | rfl | rfl | rfl | hx
  ·exact d1
  ·exact d5.symm
  ·exact d6.symm
  ·exact d7.symm
  ·exact (h.dY x hx).2) h.gs k (.bool b)
 rw [boolO_set] at g1
 exact ⟨⟨g1, h.row, ⟨h.wf.pl, by rw [List.length_set]; exact h.wf.sl⟩, h.la, h.gp, h.gs, h.d1, h.dY⟩, g2⟩
end AdvAt
end Go.Proofs.YtdiflpbioohddaaDoor
end
section
namespace Go.Proofs.YtdiflpbioohddaaDoor
open Go.RowKit
theorem lt_getD {src : List Int} {k : Nat} {x : Int} (h : src[k]? = some x) : src.getD k 0 = x := by rw [List.getD_eq_getElem?_getD, h]; rfl
set_option maxRecDepth 100000 in
set_option maxHeartbeats 2000000 in
theorem cg_needed {base B : Nat} {t : TypeId} {nv : List Value} {gP gS bX bP bS : Nat} {SA : Option Addr} {sc : Nat} {Y : List (Nat × Obj)} {src : List Int} {w : World} {v : Value} {s : AdvS} (k : Nat) (h : AdvAt base B t nv gP gS bX bP bS SA sc Y src w v s) (hn : src.length ≤ 1000) (hk : k < src.length) {b : Bool} (hb : needB src s k = b) :
  Calls Tryd.prog 69 #[.int .i64 k, .pointer (some ⟨bX, 0, none⟩), .pointer (some ⟨bP, 0, none⟩), .pointer (some ⟨bS, 0, none⟩)] w fun e w' => e = .returned (.bool b) ∧ w = w' := by
 obtain ⟨z1, z2, z3⟩ := h.cells
 have HA := Lib.hid h
 have HNB := Lib.hid hb
 obtain ⟨n, hn'⟩ : ∃ n, src.length = n := ⟨_, rfl⟩
 have HN := Lib.hid hn'
 rw [hn'] at z1 z2 z3 hn hk
 have wk : IntKind.i64.wrap ((k : Int) + 1) = (k : Int) + 1 := IntWalk.i64_in _ (by omega)
 clear h hn' hb
 go_enter Tryd.func69, Tryd.ntmps69
 go_wp2_with fail
 obtain ⟨wo, rfl⟩ : ∃ wo : World, wo = w := ⟨_, rfl⟩
 go_loopw [10] (fun i wr => ∃ j : Nat, j ≤ n ∧ i = .int .i64 j ∧ wr = wo ∧ Hid (∀ i, i < j → ¬ (s.pend.getD i false = true ∧ s.saved.getD i false = false ∧ src.getD i 0 = (k : Int) + 1))) (fun i _ => n - (intOf i).toNat)
 case atStart => exact ⟨0, Nat.zero_le _, rfl, rfl, Lib.hid fun i hi => absurd hi (Nat.not_lt_zero i)⟩
 case round =>
  obtain ⟨j, hj, rfl, rfl, HNO⟩ := hrel
  by_cases hlt : j < n
  ·obtain ⟨ad, x, rfl, hb, hx, hc, i1, i2⟩ := HA.out.ints.at_ (k := j) (by rw [HN.out]; exact hlt)
   have hgx := lt_getD hx
   have x0 : (0 : Int) ≤ (j : Int) := by omega
   have x1 : (j : Int) < (n : Int) := by omega
   obtain ⟨pb, hpb⟩ : ∃ b, s.pend.getD j false = b := ⟨_, rfl⟩
   obtain ⟨sb, hsb⟩ : ∃ b, s.saved.getD j false = b := ⟨_, rfl⟩
   have zp := HA.out.pcell (by rw [HN.out]; exact hlt) hpb
   have zs := HA.out.scell (by rw [HN.out]; exact hlt) hsb
   have HPB := Lib.hid hpb
   have HSB := Lib.hid hsb
   have HGX := Lib.hid hgx
   have HNX : Hid (¬ (s.pend.getD j false = true ∧ s.saved.getD j false = false ∧ src.getD j 0 = (k : Int) + 1) → ∀ i, i < j + 1 → ¬ (s.pend.getD i false = true ∧ s.saved.getD i false = false ∧ src.getD i 0 = (k : Int) + 1)) := Lib.hid fun h i hi => by
    rcases Nat.lt_or_ge i j with h1 | h1
    ·exact HNO.out i h1
    ·obtain rfl : i = j := by omega
     exact h
   clear hpb hsb hgx hx
   cases pb with
   | false =>
    go_wp2_with fail
    go_roundw
    case rel => exact ⟨j + 1, by omega, by go_num, trivial, Lib.hid (HNX.out (by rw [HPB.out]; rintro ⟨h, -⟩; cases h))⟩
    case measure => simp [intOf]; omega
   | true =>
    cases sb with
    | true =>
     go_wp2_with fail
     go_roundw
     case rel => exact ⟨j + 1, by omega, by go_num, trivial, Lib.hid (HNX.out (by rw [HSB.out]; rintro ⟨-, h, -⟩; cases h))⟩
     case measure => simp [intOf]; omega
    | false =>
     by_cases hxk : x = (k : Int) + 1
     ·subst hxk
      have HBT : Hid (b = true) := Lib.hid (by rw [← HNB.out]; exact needB_hit (by rw [HN.out]; exact hlt) HPB.out HSB.out HGX.out)
      go_wp2_with fail
      go_ret
      exact ⟨by rw [HBT.out]; rfl, rfl⟩
     ·have xk : (x == (k : Int) + 1) = false := by simpa using hxk
      go_wp2_with fail
      go_roundw
      case rel => exact ⟨j + 1, by omega, by go_num, trivial, Lib.hid (HNX.out (by rw [HGX.out]; rintro ⟨-, -, h⟩; exact hxk h))⟩
      case measure => simp [intOf]; omega
  ·obtain rfl : j = n := by omega
   have HBF : Hid (b = false) := Lib.hid (by rw [← HNB.out]; exact needB_none (by rw [HN.out]; exact HNO.out))
   go_wp2_with fail
   go_ret
   exact ⟨by rw [HBF.out]; rfl, rfl⟩
set_option maxRecDepth 100000 in
set_option maxHeartbeats 2000000 in
theorem sl_IndexB {base B : Nat} {t : TypeId} {nv : List Value} {gP gS bX bP bS : Nat} {SA : Option Addr} {sc : Nat} {Y : List (Nat × Obj)} {src : List Int} {w : World} {v : Value} {s : AdvS} (n : Nat) (h : AdvAt base B t nv gP gS bX bP bS SA sc Y src w v s) (hn' : src.length = n) (hn : n ≤ 1000) (h0 : s.left ≠ 0) :
  Calls Tryd.prog 70 #[.slice (some ⟨gP, 0, none⟩) n n, .bool true] w fun e w' => e = .returned (.int .i64 (firstP s : Int)) ∧ w = w' := by
 have HA := Lib.hid h
 have HN := Lib.hid hn'
 have HFP := Lib.hid (first_pend h0)
 clear h hn' h0
 go_enter Tryd.func70, Tryd.ntmps70
 go_wp2_with fail
 obtain ⟨wo, rfl⟩ : ∃ wo : World, wo = w := ⟨_, rfl⟩
 go_loopw [8] (fun i wr => ∃ j : Nat, j ≤ n ∧ i = .int .i64 j ∧ wr = wo ∧ Hid (∀ i, i < j → s.pend.getD i false = false)) (fun i _ => n - (intOf i).toNat)
 case atStart => exact ⟨0, Nat.zero_le _, rfl, rfl, Lib.hid fun i hi => absurd hi (Nat.not_lt_zero i)⟩
 case round =>
  obtain ⟨j, hj, rfl, rfl, HNO⟩ := hrel
  by_cases hlt : j < n
  ·have x0 : (0 : Int) ≤ (j : Int) := by omega
   have x1 : (j : Int) < (n : Int) := by omega
   obtain ⟨pb, hpb⟩ : ∃ b, s.pend.getD j false = b := ⟨_, rfl⟩
   have zp := HA.out.pcell (by rw [HN.out]; exact hlt) hpb
   have HPB := Lib.hid hpb
   clear hpb
   cases pb with
   | false =>
    go_wp2_with fail
    go_roundw
    case rel => exact ⟨j + 1, by omega, by go_num, trivial, Lib.hid fun i hi => by
     rcases Nat.lt_or_ge i j with h1 | h1
     ·exact HNO.out i h1
     ·obtain rfl : i = j := by omega
      exact HPB.out⟩
    case measure => simp [intOf]; omega
   | true =>
    have HFI : Hid (firstP s = j) := Lib.hid (firstP_is HPB.out HNO.out)
    go_wp2_with fail
    go_ret
    exact ⟨by rw [HFI.out]; rfl, rfl⟩
  ·exfalso
   obtain rfl : j = n := by omega
   have h1 := HFP.out.1
   rw [HA.out.wf.pl, HN.out] at h1
   have h2 := HNO.out _ h1
   rw [HFP.out.2] at h2
   cases h2
end Go.Proofs.YtdiflpbioohddaaDoor
end
