/- Several texts in one: S42 Cq. -/
import Derived.Test.YtdiflpbioohddaaDoortS20
import Derived.Test.YtdiflpbioohddaaDoortS10toTg
import Derived.Test.YtdiflpbioohddaaDoortU2toCr
import Derived.Test.YtdiflpbioohddaaDoortS22toS28
set_option linter.unusedVariables false
set_option linter.unusedSimpArgs false
section
namespace Go.Proofs.YtdiflpbioohddaaDoor
open Go.RowKit
def MEq (m n : Mac) : Prop := m.regs = n.regs ∧ m.mem = n.mem ∧ m.heads = n.heads
theorem samp_tr {d : PrgD} {c : List Ins} {x : Int} {m n : Mac} (hv : validB d = true) (h : Tr d.code c) (hs : ∀ i ∈ d.code, suitB d i = true) (he : MEq m n) : sampF d x m d.code = sampF { d with code := c } x n c := by
 unfold sampF
 rw [show smp0 m = smp0 n by unfold smp0; rw [he.1, he.2.1, he.2.2], tr_fold hv _ _ _ h hs]
 rfl
theorem run_tr {d : PrgD} {c : List Ins} (hv : validB d = true) (h : Tr d.code c) (hs : ∀ i ∈ d.code, suitB d i = true) : ∀ (xs : List Int) (m n : Mac), MEq m n →
  runO d m xs = runO { d with code := c } n xs ∧ runV d m xs = runV { d with code := c } n xs ∧ MEq (runM d m xs) (runM { d with code := c } n xs)
 | [], m, n, he => ⟨rfl, rfl, he⟩
 | x :: xs, m, n, he => by
  have hx := samp_tr (x := x) hv h hs he
  have hn : MEq (macN d x m) (macN { d with code := c } x n) := by
   unfold macN
   show MEq ⟨(sampF d x m d.code).regs, (sampF d x m d.code).mem, (sampF d x m d.code).heads, _, _⟩ ⟨(sampF { d with code := c } x n c).regs, (sampF { d with code := c } x n c).mem, (sampF { d with code := c } x n c).heads, _, _⟩
   rw [hx]
   exact ⟨rfl, rfl, rfl⟩
  obtain ⟨h1, h2, h3⟩ := run_tr hv h hs xs _ _ hn
  refine ⟨?_, ?_, h3⟩
  ·show (sampF d x m d.code).out :: _ = (sampF { d with code := c } x n c).out :: _
   rw [hx, h1]
  ·show ovN d x m + _ = ovN { d with code := c } x n + _
   rw [h2]
   unfold ovN
   show (if (sampF d x m d.code).ov = true then 1 else 0) + _ = (if (sampF { d with code := c } x n c).ov = true then 1 else 0) + _
   rw [hx]
theorem Tr.last {l c : List Ins} {e : Ins} (h : Tr (l ++ [e]) c) (he : e.op = 0) : ∃ c', c = c' ++ [e] ∧ l.Perm c' := by
 have hp := h.perm
 have hlen := hp.length_eq
 rw [List.length_append] at hlen
 obtain ⟨c', a, rfl⟩ : ∃ c' a, c = c' ++ [a] := by
  rcases List.eq_nil_or_concat c with h0 | ⟨c', a, h0⟩
  ·rw [h0] at hlen; simp at hlen
  ·exact ⟨c', a, by rw [h0, List.concat_eq_append]⟩
 have hd : depF a e = true ∨ a = e := .inl (by rw [depF_comm]; unfold depF; rw [he]; rfl)
 have hf := h a e hd
 rw [List.filter_append, List.filter_append, List.filter_cons_of_pos (by simp [qF]), List.filter_cons_of_pos (by simp [qF])] at hf
 have hg := congrArg List.getLast? hf
 simp only [List.filter_nil, List.getLast?_append, List.getLast?_singleton] at hg
 have : e = a := by simpa using hg
 subst this
 exact ⟨c', rfl, (List.perm_append_right_iff [e]).1 hp⟩
theorem tr_valid {d : PrgD} {c : List Ins} (hv : validB d = true) (h : Tr d.code c) : validB { d with code := c } = true := by
 obtain ⟨h1, h2, h3, h4⟩ := valid_parts hv
 obtain ⟨l, e, hl⟩ : ∃ l e, d.code = l ++ [e] := by
  rcases List.eq_nil_or_concat d.code with h0 | ⟨c', a, h0⟩
  ·rw [h0] at h3; simp at h3
  ·exact ⟨c', a, by rw [h0, List.concat_eq_append]⟩
 have hs := suit_mem hv
 have hlast : ∀ k i, d.code[k]? = some i → (i.op = 0 ↔ k + 1 = d.code.length) := fun k i hi => by
  have hg := h4 k (List.getElem?_eq_some_iff.1 hi).1
  unfold goodAt at hg
  rw [List.getD_eq_getElem?_getD, hi] at hg
  simp only [Option.getD_some, Bool.and_eq_true, beq_iff_eq, decide_eq_decide] at hg
  exact hg.2
 have he : e.op = 0 := (hlast l.length e (by rw [hl]; simp)).2 (by rw [hl]; simp)
 have hn : ∀ i ∈ l, i.op ≠ 0 := fun i hi h0 => by
  obtain ⟨k, hk⟩ := List.mem_iff_getElem?.1 hi
  have hkl := (List.getElem?_eq_some_iff.1 hk).1
  have := (hlast k i (by rw [hl, List.getElem?_append_left hkl]; exact hk)).1 h0
  rw [hl, List.length_append] at this
  simp at this
  omega
 rw [hl] at h
 obtain ⟨c', rfl, hp⟩ := h.last he
 have hcl : (c' ++ [e]).length = d.code.length := by rw [hl, List.length_append, List.length_append, hp.length_eq]
 unfold validB
 have e1 : okWD { d with code := c' ++ [e] } = true := h1
 have e2 : ringsB (PrgD.rg { d with code := c' ++ [e] }) = true := h2
 rw [e1, e2]
 show (true && (true && (inB ((c' ++ [e]).length : Nat) 1 512 && (List.range (c' ++ [e]).length).all (goodAt { d with code := c' ++ [e] })))) = true
 rw [hcl, inB_iff.2 (by omega), Bool.true_and, Bool.true_and, Bool.true_and]
 refine List.all_eq_true.2 fun j hj => ?_
 have hj := List.mem_range.1 hj
 show (suitB d ((c' ++ [e]).getD j Ins.zero) && (decide (((c' ++ [e]).getD j Ins.zero).op = 0) == decide (j + 1 = (c' ++ [e]).length))) = true
 rw [hcl]
 have hdl : d.code.length = c'.length + 1 := by rw [← hcl]; simp
 by_cases hjc : j < c'.length
 ·have eg : (c' ++ [e]).getD j Ins.zero = c'[j] := by rw [List.getD_eq_getElem?_getD, List.getElem?_append_left hjc, List.getElem?_eq_getElem hjc]; rfl
  have hm : c'[j] ∈ l := hp.mem_iff.2 (List.getElem_mem hjc)
  rw [eg, hs _ (by rw [hl]; exact List.mem_append_left _ hm), decide_eq_false (hn _ hm), decide_eq_false (by omega)]
  rfl
 ·obtain rfl : j = c'.length := by omega
  have eg : (c' ++ [e]).getD c'.length Ins.zero = e := by rw [List.getD_eq_getElem?_getD, List.getElem?_append_right (Nat.le_refl _), Nat.sub_self]; rfl
  rw [eg, hs _ (by rw [hl]; simp), decide_eq_true he, decide_eq_true (by omega)]
  rfl
end Go.Proofs.YtdiflpbioohddaaDoor
end
section
namespace Go.Proofs.YtdiflpbioohddaaDoor
open Go.RowKit
theorem fast_run {d : PrgD} (hv : validB d = true) (m : Mac) (xs : List Int) : runO (schD d) m xs = runO d m xs := by
 have hs : ∀ i ∈ d.code, suitB d i = true := fun i hi => by
  obtain ⟨k, hk⟩ := List.getElem?_of_mem hi
  have hlt := (List.getElem?_eq_some_iff.1 hk).1
  have hg := (valid_parts hv).2.2.2 k hlt
  unfold goodAt at hg
  rw [Bool.and_eq_true] at hg
  have e : d.code.getD k Ins.zero = i := by rw [List.getD_eq_getElem?_getD, hk]; rfl
  rw [e] at hg
  exact hg.1
 exact (run_tr hv (tr_best d.code) hs xs m m ⟨rfl, rfl, rfl⟩).1.symm
end Go.Proofs.YtdiflpbioohddaaDoor
end
