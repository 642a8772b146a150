/- Several texts in one: Cc Ce Cf Cg Ch T7 T8. -/
import Derived.Test.YtdiflpbioohddaaDoortU5toS3
import Derived.Test.YtdiflpbioohddaaDoortE1toI0
import Derived.Test.YtdiflpbioohddaaDoortG4toG8
import Derived.Test.YtdiflpbioohddaaDoortT3toE7
set_option linter.unusedVariables false
set_option linter.unusedSimpArgs false
section
namespace Go.Proofs.YtdiflpbioohddaaDoor
open Go.RowKit
theorem wrap64_same {x : Int} (h : -9223372036854775808 ≤ x ∧ x < 9223372036854775808) : wrap64 x = x := by
 exact IntWalk.wrap64_in x ⟨h.1, by omega⟩
theorem getD_set_same {l : List Int} {k : Nat} {v : Int} (h : k < l.length) : (l.set k v).getD k 0 = v := by
 rw [List.getD_eq_getElem?_getD, List.getElem?_set_self (by simpa using h)]; rfl
theorem getDset_other {l : List Int} {k j : Nat} {v : Int} (h : k ≠ j) : (l.set k v).getD j 0 = l.getD j 0 := by
 rw [List.getD_eq_getElem?_getD, List.getElem?_set_ne h, List.getD_eq_getElem?_getD]
theorem atF_getD {l : List Int} {k : Nat} : atF l (k : Int) = l.getD k 0 := by
 unfold atF; rw [if_pos (by omega), Int.toNat_natCast, List.getD_eq_getElem?_getD]
def runI (d : PrgD) (x : Int) (S : Smp) (l : List Ins) : Smp := l.foldl (stepM d x) S
theorem runI_app (d : PrgD) (x : Int) (S : Smp) (a b : List Ins) : runI d x S (a ++ b) = runI d x (runI d x S a) b := by unfold runI; rw [List.foldl_append]
theorem runI_one (d : PrgD) (x : Int) (S : Smp) (i : Ins) : runI d x S [i] = stepM d x S i := rfl
theorem runI_cons (d : PrgD) (x : Int) (S : Smp) (i : Ins) (l : List Ins) : runI d x S (i :: l) = runI d x (stepM d x S i) l := rfl
structure Vals (x : Int) (vs : List Int) (S : Smp) : Prop where
 rl : S.regs.length = 8
 ml : S.mem.length = 128
 r0 : S.regs.getD 0 0 = x
 v0 : vs.getD 0 0 = x
 mem : ∀ j, j + 1 < vs.length → S.mem.getD j 0 = vs.getD (j + 1) 0
theorem step_term {d : PrgD} {x : Int} {vs : List Int} {S : Smp} {t : Int × Int} (h : Vals x vs S) (ht : 0 ≤ t.1 ∧ t.1 < vs.length) : stepM d x S (termI t) = { S with sum := wrap64 (S.sum + t.2 * atF vs t.1) } := by
 obtain ⟨q, hq⟩ := Int.eq_ofNat_of_zero_le ht.1
 have ha : atF vs t.1 = vs.getD q 0 := by rw [hq]; exact atF_getD
 unfold termI
 by_cases h0 : t.1 = 0
 ·rw [if_pos h0]
  have hq0 : q = 0 := by omega
  show ({ S with sum := wrap64 (S.sum + S.regs.getD (0 : Int).toNat 0 * t.2) } : Smp) = _
  have e : S.regs.getD (0 : Int).toNat 0 = x := h.r0
  rw [ha, hq0, h.v0, e, Int.mul_comm]
 ·rw [if_neg h0]
  show ({ S with sum := wrap64 (S.sum + S.mem.getD (t.1 - 1).toNat 0 * t.2) } : Smp) = _
  obtain ⟨p, hp⟩ : ∃ p, q = p + 1 := ⟨q - 1, by omega⟩
  have e : (t.1 - 1).toNat = p := by omega
  rw [ha, hp, e, h.mem p (by omega), Int.mul_comm]
theorem run_terms {d : PrgD} {x : Int} {vs : List Int} {ts : List (Int × Int)} (ht : ∀ t ∈ ts, 0 ≤ t.1 ∧ t.1 < vs.length) (hc : ∀ t ∈ ts, -8388608 ≤ t.2 ∧ t.2 ≤ 8388608) (hv : ∀ v ∈ vs, -8388608 ≤ v ∧ v ≤ 8388608) (h64 : ts.length ≤ 64) {S : Smp} (h : Vals x vs S) (h0 : S.sum = 0) :
  ∀ i, i ≤ ts.length → runI d x S ((ts.take i).map termI) = { S with sum := sumT ts vs i }
 | 0, _ => by
  show S = _
  cases S
  simp only at h0
  rw [h0]; rfl
 | i + 1, hi => by
  obtain ⟨t, hti⟩ : ∃ t, ts[i]? = some t := ⟨_, List.getElem?_eq_getElem (by omega)⟩
  have hmem := List.mem_of_getElem? hti
  have hb := sumT_bound hc hv (i + 1)
  rw [List.take_add_one, hti, List.map_append, runI_app, run_terms ht hc hv h64 h h0 i (by omega)]
  show stepM d x _ (termI t) = _
  have hV : Vals x vs ({ S with sum := sumT ts vs i } : Smp) := ⟨h.rl, h.ml, h.r0, h.v0, h.mem⟩
  rw [step_term hV (ht t hmem)]
  have e : sumT ts vs (i + 1) = sumT ts vs i + t.2 * atF vs t.1 := by
   show sumT ts vs i + _ = _
   rw [hti]
  show ({ S with sum := wrap64 (sumT ts vs i + t.2 * atF vs t.1) } : Smp) = _
  rw [← e, wrap64_same]
  omega
theorem run_node {d : PrgD} {x : Int} {vs : List Int} {ts : List (Int × Int)} (ht : ∀ t ∈ ts, 0 ≤ t.1 ∧ t.1 < vs.length) (hc : ∀ t ∈ ts, -8388608 ≤ t.2 ∧ t.2 ≤ 8388608) (hv : ∀ v ∈ vs, -8388608 ≤ v ∧ v ≤ 8388608) (h64 : ts.length ≤ 64) {S : Smp} (h : Vals x vs S) {r : Int} (hr : 1 ≤ r ∧ r ≤ 6) {m : Nat} (hm : m + 1 = vs.length) (hm8 : m < 128) :
  Vals x (vs ++ [redD d (nodeV d.d2 d.c1 vs ts)]) (runI d x S (nodeI r m ts)) ∧ (runI d x S (nodeI r m ts)).ov = (S.ov || !fitD d (nodeV d.d2 d.c1 vs ts)) ∧ (runI d x S (nodeI r m ts)).out = S.out := by
 have hV : Vals x vs ({ S with sum := 0 } : Smp) := ⟨h.rl, h.ml, h.r0, h.v0, h.mem⟩
 have h1 := run_terms (d := d) ht hc hv h64 hV rfl ts.length (Nat.le_refl _)
 rw [List.take_of_length_le (Nat.le_refl _)] at h1
 obtain ⟨q, hq⟩ := Int.eq_ofNat_of_zero_le (show (0 : Int) ≤ r by omega)
 have e : runI d x S (nodeI r m ts) = { S with sum := sumT ts vs ts.length, regs := S.regs.set q (redD d (nodeV d.d2 d.c1 vs ts)), ov := S.ov || !fitD d (nodeV d.d2 d.c1 vs ts), mem := S.mem.set m (redD d (nodeV d.d2 d.c1 vs ts)) } := by
  unfold nodeI
  rw [runI_cons]
  show runI d x ({ S with sum := 0 } : Smp) _ = _
  rw [runI_app, h1]
  have e1 : runI d x ({ S with sum := sumT ts vs ts.length } : Smp) [⟨5, r, 0, 0⟩, ⟨7, r, (m : Int), 0⟩] =
    { S with sum := sumT ts vs ts.length, regs := S.regs.set r.toNat (redD d (shD d (sumT ts vs ts.length))), ov := S.ov || !fitD d (shD d (sumT ts vs ts.length)), mem := S.mem.set (m : Int).toNat ((S.regs.set r.toNat (redD d (shD d (sumT ts vs ts.length)))).getD r.toNat 0) } := rfl
  have e2 : r.toNat = q := by omega
  have e3 : shD d (sumT ts vs ts.length) = nodeV d.d2 d.c1 vs ts := rfl
  rw [e1, e2, e3, Int.toNat_natCast, getD_set_same (by rw [h.rl]; omega)]
 rw [e]
 refine ⟨⟨?_, ?_, ?_, ?_, fun j hj => ?_⟩, rfl, rfl⟩
 ·show (S.regs.set _ _).length = 8
  rw [List.length_set]; exact h.rl
 ·show (S.mem.set _ _).length = 128
  rw [List.length_set]; exact h.ml
 ·show (S.regs.set _ _).getD 0 0 = x
  rw [getDset_other (by omega)]; exact h.r0
 ·rw [List.getD_eq_getElem?_getD, List.getElem?_append_left (by omega), ← List.getD_eq_getElem?_getD]; exact h.v0
 ·show (S.mem.set m _).getD j 0 = _
  rw [List.length_append, List.length_cons, List.length_nil] at hj
  by_cases hjm : j = m
  ·subst hjm
   rw [getD_set_same (by rw [h.ml]; omega), List.getD_eq_getElem?_getD, List.getElem?_append_right (by omega), show j + 1 - vs.length = 0 by omega]; rfl
  ·rw [getDset_other (by omega), h.mem j (by omega), List.getD_eq_getElem?_getD, List.getD_eq_getElem?_getD, List.getElem?_append_left (by omega)]
end Go.Proofs.YtdiflpbioohddaaDoor
end
section
namespace Go.Proofs.YtdiflpbioohddaaDoor
open Go.RowKit
theorem nodup_le : ∀ {l m : List Nat}, l.Nodup → (∀ x ∈ l, x ∈ m) → l.length ≤ m.length
 | [], _, _, _ => Nat.zero_le _
 | x :: l, m, hn, hs => by
  rw [List.nodup_cons] at hn
  have hx : x ∈ m := hs x (List.mem_cons_self ..)
  have h := nodup_le (l := l) (m := m.erase x) hn.2 fun y hy => (List.mem_erase_of_ne (fun e => by subst e; exact hn.1 hy)).2 (hs y (List.mem_cons_of_mem _ hy))
  rw [List.length_erase_of_mem hx] at h
  have : 0 < m.length := List.length_pos_of_mem hx
  rw [List.length_cons]; omega
theorem no_saved {src : List Int} {s : AdvS} (hno : ∀ j, j < src.length → canB src s j = false) {j : Nat} (hj : j < src.length) (hp : s.pend.getD j false = true) : s.saved.getD j false = false := by
 cases hsv : s.saved.getD j false with
 | false => rfl
 | true =>
  exfalso
  obtain ⟨P, hP⟩ : ∃ P, (List.range src.length).filter (fun i => s.pend.getD i false) = P := ⟨_, rfl⟩
  obtain ⟨U, hU⟩ : ∃ U, P.filter (fun i => !s.saved.getD i false) = U := ⟨_, rfl⟩
  have hPm : ∀ i, i ∈ P ↔ i < src.length ∧ s.pend.getD i false = true := fun i => by rw [← hP, List.mem_filter, List.mem_range]
  have hUm : ∀ i, i ∈ U ↔ i ∈ P ∧ s.saved.getD i false = false := fun i => by rw [← hU, List.mem_filter]; simp
  have hex : ∀ i, i ∈ P → ∃ q, q ∈ U ∧ src.getD q 0 = (i : Int) + 1 := fun i hi => by
   obtain ⟨h1, h2⟩ := (hPm i).1 hi
   have hc := hno i h1
   unfold canB at hc
   rw [h2, Bool.true_and] at hc
   have hn : needB src s i = true := by simpa using hc
   obtain ⟨q, hq, he⟩ := List.any_eq_true.1 hn
   simp only [Bool.and_eq_true, Bool.not_eq_true', decide_eq_true_eq] at he
   exact ⟨q, (hUm q).2 ⟨(hPm q).2 ⟨List.mem_range.1 hq, he.1⟩, he.2.1⟩, he.2.2⟩
  have hgex : ∃ g : Nat → Nat, ∀ i, i ∈ P → g i ∈ U ∧ src.getD (g i) 0 = (i : Int) + 1 := by
   classical
   refine ⟨fun i => if h : i ∈ P then Classical.choose (hex i h) else 0, fun i hi => ?_⟩
   simp only [dif_pos hi]
   exact Classical.choose_spec (hex i hi)
  obtain ⟨g, hg⟩ := hgex
  have hnd : P.Nodup := by rw [← hP]; exact List.Pairwise.filter _ List.nodup_range
  have hmap : (P.map g).Nodup := by
   unfold List.Nodup
   rw [List.pairwise_map]
   refine List.Pairwise.imp_of_mem (fun {a b} ha hb hab e => ?_) hnd
   have h1 := (hg a ha).2
   have h2 := (hg b hb).2
   rw [e, h2] at h1
   exact hab (by omega)
  have h1 := nodup_le hmap fun q hq => by
   obtain ⟨i, hi, rfl⟩ := List.mem_map.1 hq
   exact (hg i hi).1
  rw [List.length_map] at h1
  have h2 : U.length < P.length := by
   rw [← hU]
   exact List.length_filter_lt_length_iff_exists.2 ⟨j, (hPm j).2 ⟨hj, hp⟩, by rw [hsv]; decide⟩
  omega
theorem run_fetch {d : PrgD} {x y v r : Int} {S : Smp} (h0 : v = 0 → S.regs.getD 0 0 = y) (h1 : v ≠ 0 → S.mem.getD (v - 1).toNat 0 = y) (hr : 0 ≤ r) (hl : S.regs.length = 8) :
  ∃ R : List Int, runI d x S (fetchI v r) = { S with regs := R } ∧ R.length = 8 ∧ R.getD (fetchR v r).toNat 0 = y ∧ R.getD 0 0 = S.regs.getD 0 0 ∧ R.getD 7 0 = S.regs.getD 7 0 := by
 have := nextR_in hr
 unfold fetchI fetchR
 by_cases hv : v = 0
 ·rw [if_pos hv, if_pos hv]
  exact ⟨S.regs, rfl, hl, h0 hv, rfl, rfl⟩
 ·rw [if_neg hv, if_neg hv]
  obtain ⟨q, hq⟩ := Int.eq_ofNat_of_zero_le (show (0 : Int) ≤ nextR r by omega)
  have hq' : (nextR r).toNat = q := by omega
  refine ⟨S.regs.set q (S.mem.getD (v - 1).toNat 0), ?_, by rw [List.length_set]; exact hl, ?_, getDset_other (by omega), getDset_other (by omega)⟩
  ·show ({ S with regs := S.regs.set (nextR r).toNat (S.mem.getD (v - 1).toNat 0) } : Smp) = _
   rw [hq']
  ·rw [hq', getD_set_same (by rw [hl]; omega)]; exact h1 hv
structure AdvI (d : PrgD) (x : Int) (S0 : Smp) (src vs : List Int) (o : Int) (b : Bool) (s : AdvS) : Prop where
 rl : (runI d x S0 s.code).regs.length = 8
 ml : (runI d x S0 s.code).mem.length = 128
 r0 : (runI d x S0 s.code).regs.getD 0 0 = vs.getD 0 0
 out : (runI d x S0 s.code).out = o
 ov : (runI d x S0 s.code).ov = b
 last : 0 ≤ s.last ∧ s.last ≤ 6
 hi : ∀ j, src.length ≤ j → j + 1 < vs.length → (runI d x S0 s.code).mem.getD j 0 = vs.getD (j + 1) 0
 old : ∀ k, k < src.length → s.pend.getD k false = true → (runI d x S0 s.code).mem.getD k 0 = vs.getD (k + 1) 0
 new : ∀ k, k < src.length → s.pend.getD k false = false → (runI d x S0 s.code).mem.getD k 0 = atF vs (src.getD k 0)
 sv : ∀ j, j < src.length → s.pend.getD j false = true → s.saved.getD j false = true → (runI d x S0 s.code).regs.getD 7 0 = atF vs (src.getD j 0)
 use : ∀ j, j < src.length → s.pend.getD j false = true → s.saved.getD j false = false → ∀ i, i < src.length → src.getD j 0 = (i : Int) + 1 → (runI d x S0 s.code).mem.getD i 0 = vs.getD (i + 1) 0
theorem getB_set_same {l : List Bool} {k : Nat} {v : Bool} (h : k < l.length) : (l.set k v).getD k false = v := by
 rw [List.getD_eq_getElem?_getD, List.getElem?_set_self (by simpa using h)]; rfl
theorem getB_set_other {l : List Bool} {k j : Nat} {v : Bool} (h : k ≠ j) : (l.set k v).getD j false = l.getD j false := by
 rw [List.getD_eq_getElem?_getD, List.getElem?_set_ne h, List.getD_eq_getElem?_getD]
theorem AdvI.put {d : PrgD} {x : Int} {S0 : Smp} {src vs : List Int} {o : Int} {b : Bool} {s s' : AdvS} (h : AdvI d x S0 src vs o b s) (hw : AdvW src s) {k : Nat} (hk : k < src.length) (hk8 : k < 128) (hneed : needB src s k = false)
  (hp' : s'.pend = s.pend.set k false) (hs' : s'.saved = s.saved) {R : List Int} (hl' : 0 ≤ s'.last ∧ s'.last ≤ 6)
  (hS : runI d x S0 s'.code = { runI d x S0 s.code with regs := R, mem := (runI d x S0 s.code).mem.set k (atF vs (src.getD k 0)) }) (hR : R.length = 8) (hR0 : R.getD 0 0 = (runI d x S0 s.code).regs.getD 0 0) (hR7 : R.getD 7 0 = (runI d x S0 s.code).regs.getD 7 0) :
  AdvI d x S0 src vs o b s' := by
 have hpk : s'.pend.getD k false = false := by rw [hp']; exact getB_set_same (by rw [hw.pl]; exact hk)
 have hpo : ∀ j, j ≠ k → s'.pend.getD j false = s.pend.getD j false := fun j hj => by rw [hp']; exact getB_set_other (fun e => hj e.symm)
 have hne : ∀ j, s'.pend.getD j false = true → j ≠ k := fun j hj e => by rw [e, hpk] at hj; cases hj
 have hm : ∀ j, j ≠ k → (runI d x S0 s'.code).mem.getD j 0 = (runI d x S0 s.code).mem.getD j 0 := fun j hj => by rw [hS]; exact getDset_other (fun e => hj e.symm)
 have hno : ∀ j, j < src.length → s.pend.getD j false = true → s.saved.getD j false = false → src.getD j 0 ≠ (k : Int) + 1 := fun j hj h1 h2 e => by
  have := List.any_eq_false.1 hneed j (List.mem_range.2 hj)
  rw [h1, h2, decide_eq_true e] at this
  exact this rfl
 refine ⟨by rw [hS]; exact hR, by rw [hS]; show (List.set _ _ _).length = 128; rw [List.length_set]; exact h.ml, by rw [hS]; exact hR0.trans h.r0, by rw [hS]; exact h.out, by rw [hS]; exact h.ov, hl', fun j hj hv => ?_, fun j hj hp => ?_, fun j hj hp => ?_, fun j hj hp hs => ?_, fun j hj hp hs i hi hsrc => ?_⟩
 ·rw [hm j (by omega)]; exact h.hi j hj hv
 ·have := hne j hp
  rw [hm j this]; exact h.old j hj (by rw [← hpo j this]; exact hp)
 ·by_cases e : j = k
  ·subst e
   rw [hS]
   exact getD_set_same (by rw [h.ml]; exact hk8)
  ·rw [hm j e]; exact h.new j hj (by rw [← hpo j e]; exact hp)
 ·have hjk := hne j hp
  rw [hS]
  exact hR7.trans (h.sv j hj (by rw [← hpo j hjk]; exact hp) (by rw [← hs']; exact hs))
 ·have hjk := hne j hp
  rw [hpo j hjk] at hp
  rw [hs'] at hs
  have hik : i ≠ k := fun e => hno j hj hp hs (by rw [← e]; exact hsrc)
  rw [hm i hik]
  exact h.use j hj hp hs i hi hsrc
theorem AdvI.move {d : PrgD} {x : Int} {S0 : Smp} {src vs : List Int} {o : Int} {b : Bool} {s : AdvS} (hsrc : ∀ v ∈ src, 0 ≤ v ∧ v < vs.length) (h64 : src.length ≤ 64) {k : Nat} (hw : AdvW src s) (hk : k < src.length) (hc : canB src s k = true) (h : AdvI d x S0 src vs o b s) : AdvI d x S0 src vs o b (moveS src s k) := by
 have hpk := canB_pend hc
 have hneed : needB src s k = false := by
  unfold canB at hc
  rw [hpk, Bool.true_and] at hc
  simpa using hc
 unfold moveS
 cases hsv : s.saved.getD k false with
 | true =>
  rw [if_pos rfl]
  refine h.put hw hk (by omega) hneed rfl rfl h.last (R := (runI d x S0 s.code).regs) ?_ h.rl rfl rfl
  rw [runI_app, runI_one]
  show ({ runI d x S0 s.code with mem := (runI d x S0 s.code).mem.set (k : Int).toNat ((runI d x S0 s.code).regs.getD (7 : Int).toNat 0) } : Smp) = _
  have e7 : (runI d x S0 s.code).regs.getD (7 : Int).toNat 0 = atF vs (src.getD k 0) := h.sv k hk hpk hsv
  rw [Int.toNat_natCast, e7]
 | false =>
  rw [if_neg (by decide)]
  have hin : 0 ≤ src.getD k 0 ∧ src.getD k 0 < vs.length := by
   rw [List.getD_eq_getElem?_getD, List.getElem?_eq_getElem hk]
   exact hsrc _ (List.getElem_mem hk)
  obtain ⟨v, hv⟩ : ∃ v, src.getD k 0 = v := ⟨_, rfl⟩
  obtain ⟨q, hq⟩ := Int.eq_ofNat_of_zero_le hin.1
  have hq' : atF vs (src.getD k 0) = vs.getD q 0 := by rw [hq]; exact atF_getD
  obtain ⟨R, e1, e2, e3, e4, e5⟩ := run_fetch (d := d) (x := x) (y := atF vs (src.getD k 0)) (v := src.getD k 0) (r := s.last) (S := runI d x S0 s.code)
   (fun e => by rw [hq', show q = 0 by omega]; exact h.r0)
   (fun e => by
    obtain ⟨p, hp⟩ : ∃ p, q = p + 1 := ⟨q - 1, by omega⟩
    rw [hq', hp, show (src.getD k 0 - 1).toNat = p by omega]
    by_cases hpn : p < src.length
    ·exact h.use k hk hpk hsv p hpn (by omega)
    ·exact h.hi p (by omega) (by omega)) h.last.1 h.rl
  refine h.put hw hk (by omega) hneed rfl rfl ?_ (R := R) ?_ e2 e4 e5
  ·have := nextR_in h.last.1
   have := h.last
   show 0 ≤ fetchL _ _ ∧ fetchL _ _ ≤ 6
   unfold fetchL
   split <;> omega
  ·rw [runI_app, runI_app, e1, runI_one]
   show ({ runI d x S0 s.code with regs := R, mem := (runI d x S0 s.code).mem.set (k : Int).toNat (R.getD (fetchR (src.getD k 0) s.last).toNat 0) } : Smp) = _
   rw [Int.toNat_natCast, e3]
theorem AdvI.brk {d : PrgD} {x : Int} {S0 : Smp} {src vs : List Int} {o : Int} {b : Bool} {s : AdvS} {k : Nat} (hk : k < src.length) (hpk : s.pend.getD k false = true) (hno : ∀ j, j < src.length → canB src s j = false) (h : AdvI d x S0 src vs o b s) : AdvI d x S0 src vs o b (brkS src s k) := by
 have hS : runI d x S0 (brkS src s k).code = { runI d x S0 s.code with regs := (runI d x S0 s.code).regs.set 7 ((runI d x S0 s.code).mem.getD k 0) } := by
  show runI d x S0 (s.code ++ [_]) = _
  rw [runI_app, runI_one]; rfl
 have hsv : ∀ j, j < src.length → (brkS src s k).saved.getD j false = (s.saved.getD j false || (s.pend.getD j false && decide (src.getD j 0 = (k : Int) + 1))) := fun j hj => getD_mapR hj
 refine ⟨by rw [hS]; show (List.set _ _ _).length = 8; rw [List.length_set]; exact h.rl, by rw [hS]; exact h.ml, by rw [hS]; exact (getDset_other (by decide)).trans h.r0, by rw [hS]; exact h.out, by rw [hS]; exact h.ov, h.last, fun j hj hv => by rw [hS]; exact h.hi j hj hv, fun j hj hp => by rw [hS]; exact h.old j hj hp, fun j hj hp => by rw [hS]; exact h.new j hj hp, fun j hj hp hs => ?_, fun j hj hp hs i hi hsrc => ?_⟩
 ·have hp' : s.pend.getD j false = true := hp
  rw [hsv j hj, no_saved hno hj hp', hp', Bool.false_or, Bool.true_and, decide_eq_true_eq] at hs
  rw [hS]
  show (List.set _ _ _).getD 7 0 = _
  rw [getD_set_same (by rw [h.rl]; decide), h.old k hk hpk, hs]
  have : ((k : Int) + 1) = ((k + 1 : Nat) : Int) := by omega
  rw [this, atF_getD]
 ·have hp' : s.pend.getD j false = true := hp
  rw [hsv j hj] at hs
  rw [hS]
  exact h.use j hj hp' (by cases e : s.saved.getD j false with
   | false => rfl
   | true => rw [e] at hs; cases hs) i hi hsrc
theorem getD_mapR0 {src : List Int} {k : Nat} (hk : k < src.length) : (pend0 src).getD k false = decide (src.getD k 0 ≠ (k : Int) + 1) := getD_mapR hk
theorem adv_run {d : PrgD} {x : Int} {S0 : Smp} {src vs : List Int} {o last : Int} {b : Bool} {code : List Ins} (hsrc : ∀ v ∈ src, 0 ≤ v ∧ v < vs.length) (h64 : src.length ≤ 64) (hlen : src.length + 1 ≤ vs.length) (hV : Vals x vs (runI d x S0 code)) (ho : (runI d x S0 code).out = o) (hb : (runI d x S0 code).ov = b) (hl : 0 ≤ last ∧ last ≤ 6) :
  AdvI d x S0 src vs o b (advF code last src) ∧ ∀ k, k < src.length → (runI d x S0 (advF code last src).code).mem.getD k 0 = atF vs (src.getD k 0) := by
 have h0 : AdvI d x S0 src vs o b (adv0 code last src) := by
  have hrep : ∀ j, (adv0 code last src).saved.getD j false = false := fun j => by
   show (List.replicate src.length false).getD j false = false
   rw [List.getD_eq_getElem?_getD, List.getElem?_replicate]
   split <;> rfl
  refine ⟨hV.rl, hV.ml, hV.r0.trans hV.v0.symm, ho, hb, hl, fun j _ hv => hV.mem j hv, fun k hk _ => hV.mem k (by omega), fun k hk hp => ?_, fun j hj _ hs => ?_, fun j hj _ _ i hi _ => hV.mem i (by omega)⟩
  ·have e := getD_mapR0 hk
   have hp' : (pend0 src).getD k false = false := hp
   rw [hp'] at e
   have e' : src.getD k 0 = (k : Int) + 1 := by simpa using e.symm
   show (runI d x S0 code).mem.getD k 0 = _
   rw [e', show ((k : Int) + 1) = ((k + 1 : Nat) : Int) by omega, atF_getD]
   exact hV.mem k (by omega)
  ·rw [hrep j] at hs; cases hs
 have h := adv_ind (src := src) (P := AdvI d x S0 src vs o b) (fun s k hw hk hc hp => hp.move hsrc h64 hw hk hc) (fun s k _ hk hpk hno hp => hp.brk hk hpk hno) (2 * src.length + 1) (adv0 code last src) adv0_w h0
 refine ⟨h, fun k hk => h.new k hk ?_⟩
 have hd := adv_done (2 * src.length + 1) (adv0 code last src) adv0_w (adv0_m (code := code) (last := last))
 have hz : (advF code last src).pend.count true = 0 := hd
 cases e : (advF code last src).pend.getD k false with
 | false => exact e
 | true =>
  exfalso
  have hm : true ∈ (advF code last src).pend := by
   rw [List.getD_eq_getElem?_getD] at e
   cases e2 : (advF code last src).pend[k]? with
   | none => rw [e2] at e; cases e
   | some v => rw [e2] at e; rw [show v = true from e] at e2; exact List.mem_of_getElem? e2
  have := List.count_pos_iff.2 hm
  omega
end Go.Proofs.YtdiflpbioohddaaDoor
end
section
namespace Go.Proofs.YtdiflpbioohddaaDoor
open Go.RowKit
structure NetR (d : PrgD) (st out : Int) (ns : List (List (Int × Int))) (nx : List Int) : Prop where
 okd : okW d.d0 d.d1 d.d2 d.d3 = true
 v : NetV d.c0 d.c1 d.c2 d.c3 st out ns nx
 small : ∀ (k : Nat) ts, ns[k]? = some ts → ts.length ≤ 64
structure MemS (s : List Int) (m : Mac) : Prop where
 rl : m.regs.length = 8
 ml : m.mem.length = 128
 mem : ∀ k, k < s.length → m.mem.getD k 0 = s.getD k 0
theorem getD_app {l r : List Int} {j : Nat} (h : j < l.length) : (l ++ r).getD j 0 = l.getD j 0 := by
 rw [List.getD_eq_getElem?_getD, List.getElem?_append_left h, List.getD_eq_getElem?_getD]
theorem run_gen {d : PrgD} {st out x : Int} {ns : List (List (Int × Int))} {nx s : List Int} {m : Mac} (h : NetR d st out ns nx) (hm : MemS s m) (hs : s.length = nx.length) (hfit : ∀ v ∈ x :: s, fitsW d.d0 d.d1 d.d2 d.d3 v = true) :
  ∀ k, k ≤ ns.length → Vals x (valsF d.d0 d.d1 d.d2 d.d3 d.c1 ns (x :: s) k) (runI d x (smp0 m) (genC st ns k).1) ∧ (runI d x (smp0 m) (genC st ns k).1).ov = overF d.d0 d.d1 d.d2 d.d3 d.c1 ns (x :: s) k ∧ (runI d x (smp0 m) (genC st ns k).1).out = 0
 | 0, _ => by
  refine ⟨⟨?_, hm.ml, ?_, rfl, fun j hj => ?_⟩, rfl, rfl⟩
  ·show (m.regs.set 0 x).length = 8
   rw [List.length_set]; exact hm.rl
  ·show (m.regs.set 0 x).getD 0 0 = x
   exact getD_set_same (by rw [hm.rl]; decide)
  ·show m.mem.getD j 0 = s.getD j 0
   have hj' : j + 1 < s.length + 1 := hj
   exact hm.mem j (by omega)
 | k + 1, hk => by
  obtain ⟨i1, i2, i3⟩ := run_gen h hm hs hfit k (by omega)
  have h1 := h.v.len; have h2 := h.v.n; have h3 := h.v.nn
  obtain ⟨ts, hts⟩ : ∃ ts, ns[k]? = some ts := ⟨_, List.getElem?_eq_getElem (by omega)⟩
  have e : ns.getD k [] = ts := by rw [List.getD_eq_getElem?_getD, hts]; rfl
  have hlen := valsF_length d.d0 d.d1 d.d2 d.d3 d.c1 ns (x :: s) k (by omega)
  have hlen' : (valsF d.d0 d.d1 d.d2 d.d3 d.c1 ns (x :: s) k).length = s.length + 1 + k := hlen
  have hf := valsF_fits (d0 := d.d0) (d1 := d.d1) (d2 := d.d2) (d3 := d.d3) (c1 := d.c1) (ns := ns) h.okd hfit k
  have hr := nextR_in (genC_last st ns k).1
  have hm' : st + (k : Int) = ((nx.length + k : Nat) : Int) := by omega
  have ht := h.v.terms k ts hts
  obtain ⟨n1, n2, n3⟩ := run_node (d := d) (x := x) (vs := valsF d.d0 d.d1 d.d2 d.d3 d.c1 ns (x :: s) k) (ts := ts) (fun t htm => by have := ht t htm; omega) (fun t htm => coef_range h.v.okc (ht t htm).2.2) (fun v hv => fits_23 (hf v hv)) (h.small k ts hts) i1 (r := nextR (genC st ns k).2) hr (m := nx.length + k) (by omega) (by omega)
  have e2 : runI d x (smp0 m) (genC st ns (k + 1)).1 = runI d x (runI d x (smp0 m) (genC st ns k).1) (nodeI (nextR (genC st ns k).2) ((nx.length + k : Nat) : Int) ts) := by
   rw [← runI_app, ← hm', ← e]; rfl
  rw [e2, valsF_succ hts, overF_succ hts]
  exact ⟨n1, n2.trans (by rw [i2]; rfl), n3.trans i3⟩
theorem run_body {d : PrgD} {st out x : Int} {ns : List (List (Int × Int))} {nx s : List Int} {m : Mac} (h : NetR d st out ns nx) (hm : MemS s m) (hs : s.length = nx.length) (hfit : ∀ v ∈ x :: s, fitsW d.d0 d.d1 d.d2 d.d3 v = true) :
  Vals x (valsF d.d0 d.d1 d.d2 d.d3 d.c1 ns (x :: s) ns.length) (runI d x (smp0 m) (bodyC st out ns).1) ∧ (runI d x (smp0 m) (bodyC st out ns).1).ov = overF d.d0 d.d1 d.d2 d.d3 d.c1 ns (x :: s) ns.length ∧ (runI d x (smp0 m) (bodyC st out ns).1).out = atF (valsF d.d0 d.d1 d.d2 d.d3 d.c1 ns (x :: s) ns.length) out := by
 obtain ⟨i1, i2, i3⟩ := run_gen h hm hs hfit ns.length (Nat.le_refl _)
 have h1 := h.v.len; have h2 := h.v.n; have h3 := h.v.nn; have h4 := h.v.fin
 have hlen : (valsF d.d0 d.d1 d.d2 d.d3 d.c1 ns (x :: s) ns.length).length = s.length + 1 + ns.length := valsF_length d.d0 d.d1 d.d2 d.d3 d.c1 ns (x :: s) ns.length (Nat.le_refl _)
 generalize valsF d.d0 d.d1 d.d2 d.d3 d.c1 ns (x :: s) ns.length = vs at i1 hlen ⊢
 obtain ⟨q, hq⟩ := Int.eq_ofNat_of_zero_le h4.1
 have hq' : atF vs out = vs.getD q 0 := by rw [hq]; exact atF_getD
 obtain ⟨R, e1, e2, e3, e4, e5⟩ := run_fetch (d := d) (x := x) (y := atF vs out) (v := out) (r := (genC st ns ns.length).2) (S := runI d x (smp0 m) (genC st ns ns.length).1)
  (fun e => by rw [hq', show q = 0 by omega]; exact i1.r0.trans i1.v0.symm)
  (fun e => by
   obtain ⟨p, hp⟩ : ∃ p, q = p + 1 := ⟨q - 1, by omega⟩
   rw [hq', hp, show (out - 1).toNat = p by omega]
   exact i1.mem p (by omega)) (genC_last st ns ns.length).1 i1.rl
 have e : runI d x (smp0 m) (bodyC st out ns).1 = { runI d x (smp0 m) (genC st ns ns.length).1 with regs := R, out := atF vs out } := by
  unfold bodyC
  rw [runI_app, runI_app, e1, runI_one]
  show ({ runI d x (smp0 m) (genC st ns ns.length).1 with regs := R, out := R.getD (fetchR out (genC st ns ns.length).2).toNat 0 } : Smp) = _
  rw [e3]
 rw [e]
 exact ⟨⟨e2, i1.ml, e4.trans i1.r0, i1.v0, i1.mem⟩, i2, rfl⟩
theorem comp_sample {d : PrgD} {st out x : Int} {ns : List (List (Int × Int))} {nx s : List Int} {m : Mac} (h : NetR d st out ns nx) (hm : MemS s m) (hs : s.length = nx.length) (hfit : ∀ v ∈ x :: s, fitsW d.d0 d.d1 d.d2 d.d3 v = true) (hcode : d.code = compC st out ns nx) :
  (sampF d x m d.code).out = atF (valsF d.d0 d.d1 d.d2 d.d3 d.c1 ns (x :: s) ns.length) out ∧ (sampF d x m d.code).ov = overF d.d0 d.d1 d.d2 d.d3 d.c1 ns (x :: s) ns.length ∧
  MemS (followF nx (valsF d.d0 d.d1 d.d2 d.d3 d.c1 ns (x :: s) ns.length)) (macN d x m) := by
 obtain ⟨i1, i2, i3⟩ := run_body h hm hs hfit
 have h1 := h.v.len; have h2 := h.v.n; have h3 := h.v.nn; have h4 := h.v.next
 have hlen : (valsF d.d0 d.d1 d.d2 d.d3 d.c1 ns (x :: s) ns.length).length = s.length + 1 + ns.length := valsF_length d.d0 d.d1 d.d2 d.d3 d.c1 ns (x :: s) ns.length (Nat.le_refl _)
 generalize valsF d.d0 d.d1 d.d2 d.d3 d.c1 ns (x :: s) ns.length = vs at i1 i3 hlen ⊢
 have hb := body_good h.v
 obtain ⟨a1, a2⟩ := adv_run (d := d) (x := x) (S0 := smp0 m) (src := nx) (vs := vs) (last := (bodyC st out ns).2) (code := (bodyC st out ns).1) (fun v hv => by have := h4 v hv; omega) h2 (by omega) i1 i3 i2 hb.2
 have e : sampF d x m d.code = runI d x (smp0 m) (advF (bodyC st out ns).1 (bodyC st out ns).2 nx).code := by
  rw [hcode]
  show runI d x (smp0 m) (compC st out ns nx) = _
  unfold compC
  rw [runI_app, runI_one]; rfl
 refine ⟨by rw [e]; exact a1.out, by rw [e]; exact a1.ov, ⟨?_, ?_, fun k hk => ?_⟩⟩
 ·show (sampF d x m d.code).regs.length = 8
  rw [e]; exact a1.rl
 ·show (sampF d x m d.code).mem.length = 128
  rw [e]; exact a1.ml
 ·unfold followF at hk ⊢
  rw [List.length_map] at hk
  show (sampF d x m d.code).mem.getD k 0 = _
  rw [e, a2 k hk, List.getD_eq_getElem?_getD, List.getD_eq_getElem?_getD, List.getElem?_map, List.getElem?_eq_getElem hk]; rfl
end Go.Proofs.YtdiflpbioohddaaDoor
end
section
namespace Go.Proofs.YtdiflpbioohddaaDoor
open Go.RowKit
theorem netB_V {d0 d1 d2 d3 c0 c1 c2 c3 st out : Int} {ns : List (List (Int × Int))} {nx : List Int} (h : netB d0 d1 d2 d3 c0 c1 c2 c3 st ns nx out = true) :
  okW d0 d1 d2 d3 = true ∧ NetV c0 c1 c2 c3 st out ns nx ∧ ∀ (k : Nat) ts, ns[k]? = some ts → ts.length ≤ 64 := by
 unfold netB netHeadB at h
 simp only [Bool.and_eq_true, decide_eq_true_eq, beq_iff_eq] at h
 obtain ⟨⟨h1, h2, h3, h4, h5⟩, h6, h7, h8⟩ := h
 have hst := inB_iff.1 h3
 have hnode : ∀ (k : Nat) ts, ns[k]? = some ts → nodeB c0 c1 c2 c3 (st + k) ts = true := fun k ts hk => by
  unfold nodesB at h6
  have := List.all_eq_true.1 h6 k (List.mem_range.2 (List.getElem?_eq_some_iff.1 hk).1)
  rw [hk] at this
  exact this
 refine ⟨h1, ⟨h2, h5.symm, by omega, h4, fun k ts hk t ht => ?_, fun v hv => inB_iff.1 (List.all_eq_true.1 h7 v hv), inB_iff.1 h8⟩, fun k ts hk => ?_⟩
 ·have hn := hnode k ts hk
  unfold nodeB at hn
  rw [Bool.and_eq_true] at hn
  have ht := List.all_eq_true.1 hn.2 t ht
  unfold termB at ht
  simp only [Bool.and_eq_true, Bool.or_eq_true, beq_iff_eq] at ht
  exact ⟨(inB_iff.1 ht.1).1, (inB_iff.1 ht.1).2, ht.2⟩
 ·have hn := hnode k ts hk
  unfold nodeB at hn
  rw [Bool.and_eq_true] at hn
  exact of_decide_eq_true hn.1
def compD (d0 d1 d2 d3 c0 c1 c2 c3 st out : Int) (ns : List (List (Int × Int))) (nx : List Int) : PrgD := ⟨d0, d1, d2, d3, c0, c1, c2, c3, [], compC st out ns nx⟩
def tinyN (ns : List (List (Int × Int))) (nx : List Int) : Prop := 5 + cntT ns + 3 * ns.length + 3 * nx.length ≤ 512
theorem compD_valid {d0 d1 d2 d3 c0 c1 c2 c3 st out : Int} {ns : List (List (Int × Int))} {nx : List Int} (h : netB d0 d1 d2 d3 c0 c1 c2 c3 st ns nx out = true) (ht : tinyN ns nx) : validB (compD d0 d1 d2 d3 c0 c1 c2 c3 st out ns nx) = true := by
 obtain ⟨h1, h2, -⟩ := netB_V h
 have hc : okW c0 c1 c2 c3 = true := h2.okc
 exact comp_valid (d := compD d0 d1 d2 d3 c0 c1 c2 c3 st out ns nx) h2 (by show (okW d0 d1 d2 d3 && okW c0 c1 c2 c3) = true; rw [h1, hc]; rfl) rfl rfl (Nat.le_trans (comp_len st out ns nx) ht)
theorem compD_R {d0 d1 d2 d3 c0 c1 c2 c3 st out : Int} {ns : List (List (Int × Int))} {nx : List Int} (h : netB d0 d1 d2 d3 c0 c1 c2 c3 st ns nx out = true) : NetR (compD d0 d1 d2 d3 c0 c1 c2 c3 st out ns nx) st out ns nx := by
 obtain ⟨h1, h2, h3⟩ := netB_V h
 exact ⟨h1, h2, h3⟩
theorem cntT_le {ns : List (List (Int × Int))} {m : Nat} (h : ∀ ts ∈ ns, ts.length ≤ m) : cntT ns ≤ m * ns.length := by
 induction ns with
 | nil => exact Nat.le_refl _
 | cons a l ih =>
  have h1 := h a (List.mem_cons_self ..)
  have h2 := ih fun x hx => h x (List.mem_cons_of_mem _ hx)
  unfold cntT at h2 ⊢
  rw [List.map_cons, List.sum_cons, List.length_cons, Nat.mul_add]
  omega
theorem tiny_of {ns : List (List (Int × Int))} {nx : List Int} {m : Nat} (h : ∀ ts ∈ ns, ts.length ≤ m) (hl : 5 + m * ns.length + 3 * ns.length + 3 * nx.length ≤ 512) : tinyN ns nx := by
 have := cntT_le h
 unfold tinyN
 omega
end Go.Proofs.YtdiflpbioohddaaDoor
end
section
namespace Go.Proofs.YtdiflpbioohddaaDoor
open Go.RowKit
def nwVals (d : PrgD) (ns : List (List (Int × Int))) (s : List Int) (x : Int) : List Int := valsF d.d0 d.d1 d.d2 d.d3 d.c1 ns (x :: s) ns.length
def nwS (d : PrgD) (ns : List (List (Int × Int))) (nx : List Int) : List Int → List Int → List Int
 | s, [] => s
 | s, x :: xs => nwS d ns nx (followF nx (nwVals d ns s x)) xs
def nwO (d : PrgD) (out : Int) (ns : List (List (Int × Int))) (nx : List Int) : List Int → List Int → List Int
 | _, [] => []
 | s, x :: xs => atF (nwVals d ns s x) out :: nwO d out ns nx (followF nx (nwVals d ns s x)) xs
def nwC (d : PrgD) (ns : List (List (Int × Int))) (nx : List Int) : List Int → List Int → Int
 | _, [] => 0
 | s, x :: xs => (if overF d.d0 d.d1 d.d2 d.d3 d.c1 ns (x :: s) ns.length then 1 else 0) + nwC d ns nx (followF nx (nwVals d ns s x)) xs
theorem follow_fits {d : PrgD} {st out x : Int} {ns : List (List (Int × Int))} {nx s : List Int} (h : NetR d st out ns nx) (hs : s.length = nx.length) (hfit : ∀ v ∈ x :: s, fitsW d.d0 d.d1 d.d2 d.d3 v = true) : ∀ v ∈ followF nx (nwVals d ns s x), fitsW d.d0 d.d1 d.d2 d.d3 v = true := fun v hv => by
 have h1 := h.v.len
 have hlen : (nwVals d ns s x).length = s.length + 1 + ns.length := valsF_length d.d0 d.d1 d.d2 d.d3 d.c1 ns (x :: s) ns.length (Nat.le_refl _)
 have hf : ∀ u ∈ nwVals d ns s x, fitsW d.d0 d.d1 d.d2 d.d3 u = true := valsF_fits h.okd hfit ns.length
 generalize nwVals d ns s x = vs at hlen hf hv
 unfold followF at hv
 obtain ⟨k, hk, rfl⟩ := List.mem_map.1 hv
 have hr := h.v.next k hk
 obtain ⟨q, hq⟩ := Int.eq_ofNat_of_zero_le hr.1
 have hql : q < vs.length := by omega
 rw [hq, atF_getD, List.getD_eq_getElem?_getD, List.getElem?_eq_getElem hql]
 exact hf _ (List.getElem_mem hql)
theorem comp_run {d : PrgD} {st out : Int} {ns : List (List (Int × Int))} {nx : List Int} (h : NetR d st out ns nx) (hcode : d.code = compC st out ns nx) : ∀ (xs s : List Int) (m : Mac), MemS s m → s.length = nx.length → (∀ v ∈ s, fitsW d.d0 d.d1 d.d2 d.d3 v = true) → (∀ v ∈ xs, fitsW d.d0 d.d1 d.d2 d.d3 v = true) →
  runO d m xs = nwO d out ns nx s xs ∧ runV d m xs = nwC d ns nx s xs ∧ MemS (nwS d ns nx s xs) (runM d m xs) ∧ (nwS d ns nx s xs).length = nx.length ∧ ∀ v ∈ nwS d ns nx s xs, fitsW d.d0 d.d1 d.d2 d.d3 v = true
 | [], s, m, hm, hs, hf, _ => ⟨rfl, rfl, hm, hs, hf⟩
 | x :: xs, s, m, hm, hs, hf, hx => by
  have hfx : ∀ v ∈ x :: s, fitsW d.d0 d.d1 d.d2 d.d3 v = true := fun v hv => by
   rcases List.mem_cons.1 hv with rfl | hv
   ·exact hx v (List.mem_cons_self ..)
   ·exact hf v hv
  obtain ⟨s1, s2, s3⟩ := comp_sample h hm hs hfx hcode
  have hl : (followF nx (nwVals d ns s x)).length = nx.length := by unfold followF; rw [List.length_map]
  obtain ⟨r1, r2, r3⟩ := comp_run h hcode xs (followF nx (nwVals d ns s x)) (macN d x m) s3 hl (follow_fits h hs hfx) fun v hv => hx v (List.mem_cons_of_mem _ hv)
  refine ⟨?_, ?_, r3⟩
  ·show (sampF d x m d.code).out :: runO d (macN d x m) xs = _
   rw [s1, r1]; rfl
  ·show ovN d x m + runV d (macN d x m) xs = _
   rw [r2]
   unfold ovN
   rw [s2]; rfl
theorem nwS_app {d : PrgD} {ns : List (List (Int × Int))} {nx : List Int} : ∀ (xs ys s : List Int), nwS d ns nx s (xs ++ ys) = nwS d ns nx (nwS d ns nx s xs) ys
 | [], _, _ => rfl
 | _ :: xs, ys, _ => nwS_app xs ys _
theorem nwO_app {d : PrgD} {out : Int} {ns : List (List (Int × Int))} {nx : List Int} : ∀ (xs ys s : List Int), nwO d out ns nx s (xs ++ ys) = nwO d out ns nx s xs ++ nwO d out ns nx (nwS d ns nx s xs) ys
 | [], _, _ => rfl
 | x :: xs, ys, s => by
  show _ :: nwO d out ns nx _ (xs ++ ys) = _ :: (nwO d out ns nx _ xs ++ _)
  rw [nwO_app xs ys]; rfl
theorem nwC_app {d : PrgD} {ns : List (List (Int × Int))} {nx : List Int} : ∀ (xs ys s : List Int), nwC d ns nx s (xs ++ ys) = nwC d ns nx s xs + nwC d ns nx (nwS d ns nx s xs) ys
 | [], ys, s => by show nwC d ns nx s ys = 0 + _; rw [Int.zero_add]; rfl
 | x :: xs, ys, s => by
  show _ + nwC d ns nx _ (xs ++ ys) = _ + nwC d ns nx _ xs + _
  rw [nwC_app xs ys, ← Int.add_assoc]; rfl
end Go.Proofs.YtdiflpbioohddaaDoor
end
section
namespace Go.Proofs.YtdiflpbioohddaaDoor
open Go.RowKit
structure NetD where
 (d0 d1 d2 d3 c0 c1 c2 c3 st out : Int)
 (ns : List (List (Int × Int)))
 (nx : List Int)
namespace NetD
def ok (n : NetD) : Bool := netB n.d0 n.d1 n.d2 n.d3 n.c0 n.c1 n.c2 n.c3 n.st n.ns n.nx n.out
def zero : NetD := ⟨0, 0, 0, 0, 0, 0, 0, 0, 0, 0, [], []⟩
def isZero (n : NetD) : Bool := decide (n.d0 = 0 ∧ n.d1 = 0 ∧ n.d2 = 0 ∧ n.d3 = 0 ∧ n.c0 = 0 ∧ n.c1 = 0 ∧ n.c2 = 0 ∧ n.c3 = 0 ∧ n.st = 0 ∧ n.out = 0 ∧ n.ns.length = 0 ∧ n.nx.length = 0)
def same (n m : NetD) : Bool := decide (n.d0 = m.d0 ∧ n.d1 = m.d1 ∧ n.d2 = m.d2 ∧ n.d3 = m.d3)
def fit (n : NetD) (s : List Int) : Bool := s.all fun v => fitsW n.d0 n.d1 n.d2 n.d3 v
def state (n : NetD) (s : List Int) : Bool := ((s.length : Int) == n.st) && n.fit s
def vals (n : NetD) (s : List Int) (x : Int) : List Int := valsF n.d0 n.d1 n.d2 n.d3 n.c1 n.ns (x :: s) n.ns.length
def follow (n : NetD) (s : List Int) (x : Int) : List Int := followF n.nx (n.vals s x)
def outp (n : NetD) (s : List Int) (x : Int) : Int := atF (n.vals s x) n.out
end NetD
theorem NetD.isZero_iff {n : NetD} : n.isZero = true ↔ n = NetD.zero := by
 obtain ⟨d0, d1, d2, d3, c0, c1, c2, c3, st, out, ns, nx⟩ := n
 simp [NetD.isZero, NetD.zero]
abbrev NetD.val (n : NetD) (NA : Option Addr) (nc : Nat) (XA : Option Addr) (xc : Nat) : Value := netV n.d0 n.d1 n.d2 n.d3 n.c0 n.c1 n.c2 n.c3 n.st NA n.ns.length nc XA n.nx.length xc n.out
end Go.Proofs.YtdiflpbioohddaaDoor
end
section
namespace Go.Proofs.YtdiflpbioohddaaDoor
open Go.RowKit
structure StrD where
 (net old : NetD)
 (s f : List Int)
 (fade left ev : Int)
def StrD.Good (u : StrD) : Prop := u.net.ok = true ∧ u.net.state u.s = true ∧ (0 ≤ u.ev ∧ u.ev ≤ 1099511627776) ∧ (0 ≤ u.fade ∧ u.fade ≤ 4096) ∧ (0 ≤ u.left ∧ u.left ≤ u.fade) ∧
 ((u.left = 0 ∧ u.fade = 0 ∧ u.old.isZero = true ∧ u.f.length = 0) ∨ (u.left ≠ 0 ∧ u.old.ok = true ∧ u.old.same u.net = true ∧ u.old.state u.f = true))
instance (u : StrD) : Decidable u.Good := by unfold StrD.Good; infer_instance
structure NetAt (w : World) (n : NetD) (NA XA : Option Addr) : Prop where
 nodes : NodesAt w NA n.ns
 next : Ints w XA n.nx
 n1 : n.ns.length ≤ 9223372036854775807
 n2 : n.nx.length ≤ 9223372036854775807
 n3 : ∀ ts ∈ n.ns, ts.length ≤ 9223372036854775807
 st : I64 n.st
theorem NetAt.grow {w w' : World} {n : NetD} {NA XA : Option Addr} (h : NetAt w n NA XA) (hb : Below w.heap.size w w') : NetAt w' n NA XA := ⟨h.nodes.grow hb, h.next.grow hb, h.n1, h.n2, h.n3, h.st⟩
theorem NetAt.zero {w : World} {NA XA : Option Addr} : NetAt w NetD.zero NA XA := ⟨NodesAt.nil, Ints.nil, by decide, by decide, by simp [NetD.zero], by decide, by decide⟩
end Go.Proofs.YtdiflpbioohddaaDoor
end
