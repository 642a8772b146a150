/- Machines made of numbers; what a program forgets; a buffer as a delay. No walk. -/
import Derived.Test.YtgdccmmcjicgkaaDoorfOdtoS3
set_option linter.unusedVariables false
set_option linter.unusedSimpArgs false
namespace Go.Proofs.YtgdccmmcjicgkaaDoor
open Go.RowKit
theorem fitD_wordF {d : PrgD} (h : okW d.d0 d.d1 d.d2 d.d3 = true) (x : Int) : fitD d (wordF d.d0 d.d1 d.d2 d.d3 x) = true := fits_wordF h x
theorem wordD_wordsF {d : PrgD} (h : okW d.d0 d.d1 d.d2 d.d3 = true) (l : List Int) (n : Nat) : wordD d (wordsF d.d0 d.d1 d.d2 d.d3 l n) = true := by
  unfold wordD wordsB
  refine List.all_eq_true.2 fun y hy => ?_
  unfold wordsF at hy
  obtain ⟨k, -, rfl⟩ := List.mem_map.1 hy
  exact fitD_wordF h _
def shiftedF (l : List Int) (n : Nat) : List Int := (List.range n).map fun (i : Nat) => wrap64 (atF l ((i % 17 : Nat) : Int) + (i : Int))
theorem shiftedF_succ (l : List Int) (n : Nat) : shiftedF l (n + 1) = shiftedF l n ++ [wrap64 (atF l ((n % 17 : Nat) : Int) + (n : Int))] := by simp [shiftedF, List.range_succ]
theorem shiftedF_length (l : List Int) (n : Nat) : (shiftedF l n).length = n := by simp [shiftedF]
def headsF (rg : List (Int × Int)) (l : List Int) (n : Nat) : List Int := (List.range n).map fun (i : Nat) => withinF (atF l ((i : Int) + 3)) (rg.getD i (0, 0)).2
theorem headsF_succ (rg : List (Int × Int)) (l : List Int) (n : Nat) : headsF rg l (n + 1) = headsF rg l n ++ [withinF (atF l ((n : Int) + 3)) (rg.getD n (0, 0)).2] := by simp [headsF, List.range_succ]
theorem headsF_length (rg : List (Int × Int)) (l : List Int) (n : Nat) : (headsF rg l n).length = n := by simp [headsF]
def macF (d : PrgD) (l : List Int) : Mac := ⟨wordsF d.d0 d.d1 d.d2 d.d3 l 8, wordsF d.d0 d.d1 d.d2 d.d3 (shiftedF l 128) 128, headsF d.rg l d.rg.length, 0, 0⟩
theorem valid_words {d : PrgD} (h : validB d = true) : okW d.d0 d.d1 d.d2 d.d3 = true ∧ okW d.c0 d.c1 d.c2 d.c3 = true := by
  obtain ⟨h1, -⟩ := valid_parts h
  unfold okWD at h1
  exact Bool.and_eq_true_iff.1 h1
theorem headsF_ok {d : PrgD} (h : validB d = true) (l : List Int) : headsB d.rg (headsF d.rg l d.rg.length) = true := by
  unfold headsB
  rw [headsF_length]
  refine List.all_eq_true.2 fun j hj => ?_
  have hj := List.mem_range.1 hj
  rw [decide_eq_true_eq]
  have hr := ringIn_iff.1 (valid_ring h hj)
  have e : (headsF d.rg l d.rg.length).getD j 0 = withinF (atF l ((j : Int) + 3)) (d.rg.getD j (0, 0)).2 := by
    unfold headsF
    rw [List.getD_eq_getElem?_getD, List.getElem?_map, List.getElem?_range hj]; rfl
  rw [e]
  exact within_in (by omega) _
theorem macF_ok {d : PrgD} (h : validB d = true) (l : List Int) : MacOk d (macF d l) :=
  ⟨wordsF_length _ _ _ _ _ _, wordsF_length _ _ _ _ _ _, headsF_length _ _ _, wordD_wordsF (valid_words h).1 _ _, wordD_wordsF (valid_words h).1 _ _, headsF_ok h l⟩
theorem macF_valid {d : PrgD} (h : validB d = true) (l : List Int) : macB d (macF d l) = true := macB_mk h (macF_ok h l) ⟨Int.le_refl _, by show (0 : Int) ≤ _; omega⟩ ⟨Int.le_refl _, by show (0 : Int) ≤ _; omega⟩
def inFour : List Ins := [⟨9, 0, 0, 0⟩, ⟨9, 1, 0, 0⟩, ⟨9, 2, 0, 0⟩, ⟨9, 3, 0, 0⟩]
def PrgD.in4 (d : PrgD) : PrgD := { d with code := inFour ++ d.code }
theorem in4_valid {d : PrgD} (h : validB d = true) (hl : d.code.length ≤ 500) : validB d.in4 = true := by
  obtain ⟨h1, h2, h3, h4⟩ := valid_parts h
  unfold validB
  have e1 : okWD d.in4 = true := h1
  have e2 : ringsB d.in4.rg = true := h2
  have e3 : d.in4.code.length = d.code.length + 4 := by show (inFour ++ d.code).length = _; rw [List.length_append]; show 4 + _ = _; omega
  rw [e1, e2, e3, inB_iff.2 (by omega), Bool.true_and, Bool.true_and, Bool.true_and]
  refine List.all_eq_true.2 fun j hj => ?_
  have hj := List.mem_range.1 hj
  unfold goodAt
  rw [e3]
  by_cases hl4 : j < 4
  · have e : d.in4.code.getD j Ins.zero = inFour.getD j Ins.zero := by
      show (inFour ++ d.code).getD j Ins.zero = _
      rw [List.getD_eq_getElem?_getD, List.getElem?_append_left (by show j < 4; exact hl4), List.getD_eq_getElem?_getD]
    rw [e, decide_eq_false (show ¬ j + 1 = d.code.length + 4 by omega)]
    have hc : j = 0 ∨ j = 1 ∨ j = 2 ∨ j = 3 := by omega
    rcases hc with rfl | rfl | rfl | rfl <;> simp [inFour, suitB, fitI, Ins.formed, kA, kB, kC, fitsK, inB]
  · obtain ⟨k, rfl⟩ : ∃ k, j = 4 + k := ⟨j - 4, by omega⟩
    have e : d.in4.code.getD (4 + k) Ins.zero = d.code.getD k Ins.zero := by
      show (inFour ++ d.code).getD (4 + k) Ins.zero = _
      rw [List.getD_eq_getElem?_getD, List.getElem?_append_right (by show 4 ≤ _; omega), List.getD_eq_getElem?_getD]
      show (d.code[4 + k - 4]?).getD _ = _
      rw [show 4 + k - 4 = k by omega]
    rw [e]
    have := h4 k (by omega)
    unfold goodAt at this
    rw [show decide (4 + k + 1 = d.code.length + 4) = decide (k + 1 = d.code.length) by rw [decide_eq_decide]; omega]
    exact this
def low4 (i : Ins) : Prop := (i.op = 2 ∨ i.op = 5 ∨ i.op = 6 ∨ i.op = 7 ∨ i.op = 9 ∨ i.op = 10 ∨ i.op = 11 → i.a < 4) ∧ (i.op = 8 ∨ i.op = 11 → i.b < 4)
theorem insF_low4 (rg : List (Int × Int)) {op : Int} (a b y : Int) (ho : 1 ≤ op ∧ op ≤ 11) : low4 (insF rg op a b y) := by
  have ha := Int.emod_lt_of_pos a (show (0 : Int) < 4 by decide)
  have hb := Int.emod_lt_of_pos b (show (0 : Int) < 4 by decide)
  have hc : op = 1 ∨ op = 2 ∨ op = 3 ∨ op = 4 ∨ op = 5 ∨ op = 6 ∨ op = 7 ∨ op = 8 ∨ op = 9 ∨ op = 10 ∨ op = 11 := by omega
  unfold low4
  rcases hc with rfl | rfl | rfl | rfl | rfl | rfl | rfl | rfl | rfl | rfl | rfl
  · rw [insF_1]; simp
  · rw [insF_2]; simp; exact ha
  · rw [insF_3]; simp
  · unfold insF
    simp only [show ¬ (4 : Int) = 2 by decide, show ¬ (4 : Int) = 3 by decide, if_false, if_true]
    split <;> simp
  · rw [insF_5]; simp; exact ha
  · rw [insF_6]; simp; exact ha
  · rw [insF_7]; simp; exact ha
  · unfold insF
    simp only [show ¬ (8 : Int) = 2 by decide, show ¬ (8 : Int) = 3 by decide, show ¬ (8 : Int) = 4 by decide, if_false, if_true]
    split
    · simp
    · simp; exact hb
  · rw [insF_9]; simp; exact ha
  · rw [insF_10]; simp; exact ha
  · rw [insF_11]; simp; exact ⟨ha, hb⟩
theorem prgF_low4 (dn cn : Int) (rs os fs : List Int) (most : Nat) : ∀ i ∈ (prgF dn cn rs os fs most).code, low4 i := fun i hi => by
  unfold prgF at hi
  simp only at hi
  rcases List.mem_append.1 hi with h | h
  · unfold codeK at h
    obtain ⟨k, -, rfl⟩ := List.mem_map.1 h
    have := within_in (m := 11) (by omega) (os.getD k 0)
    exact insF_low4 _ _ _ _ (by omega)
  · rw [List.mem_singleton.1 h]; simp [low4]
structure Like (s t : Smp) : Prop where
  mem : s.mem = t.mem
  heads : s.heads = t.heads
  sum : s.sum = t.sum
  out : s.out = t.out
  ov : s.ov = t.ov
  l1 : s.regs.length = 8
  l2 : t.regs.length = 8
  regs : ∀ k, k < 4 → s.regs.getD k 0 = t.regs.getD k 0
theorem getD_setI {l : List Int} {k j : Nat} {v : Int} (hk : k < l.length) : (l.set k v).getD j 0 = if k = j then v else l.getD j 0 := by
  rw [List.getD_eq_getElem?_getD, List.getElem?_set]
  split
  · first | rfl | (rw [if_pos (by omega)]; rfl)
  · rw [List.getD_eq_getElem?_getD]
theorem Like.set {s t : Smp} (h : Like s t) (k : Nat) (v : Int) (hk : k < 8) : Like { s with regs := s.regs.set k v } { t with regs := t.regs.set k v } := by
  refine ⟨h.mem, h.heads, h.sum, h.out, h.ov, by simp [h.l1], by simp [h.l2], fun j hj => ?_⟩
  show (s.regs.set k v).getD j 0 = (t.regs.set k v).getD j 0
  rw [getD_setI (by rw [h.l1]; exact hk), getD_setI (by rw [h.l2]; exact hk), h.regs j hj]
theorem Like.step {d : PrgD} {x : Int} {s t : Smp} {i : Ins} (h : Like s t) (hf : i.formed = true) (h4 : low4 i) : Like (stepM d x s i) (stepM d x t i) := by
  have hr := formed_parts hf
  obtain ⟨p1, p2⟩ := h4
  have ha : ∀ k, k = i.a.toNat → (i.op = 2 ∨ i.op = 5 ∨ i.op = 6 ∨ i.op = 7 ∨ i.op = 9 ∨ i.op = 10 ∨ i.op = 11) → s.regs.getD k 0 = t.regs.getD k 0 := fun k e ho => h.regs k (by have := p1 ho; omega)
  have hb : ∀ k, k = i.b.toNat → (i.op = 8 ∨ i.op = 11) → s.regs.getD k 0 = t.regs.getD k 0 := fun k e ho => h.regs k (by have := p2 ho; omega)
  have hk : (i.op = 2 ∨ i.op = 5 ∨ i.op = 6 ∨ i.op = 7 ∨ i.op = 9 ∨ i.op = 10 ∨ i.op = 11) → i.a.toNat < 8 := fun ho => by have := p1 ho; omega
  obtain ⟨op, a, b, imm⟩ := i
  simp only at ha hb hk
  have hs := fun k v hk => h.set k v hk
  obtain ⟨sr, sm, sh, ss, so, sv⟩ := s
  obtain ⟨tr, tm, th, ts, tu, tv⟩ := t
  obtain ⟨e1, e2, e3, e4, e5, l1, l2, hr4⟩ := h
  simp only at e1 e2 e3 e4 e5 l1 l2 hr4 ha hb hs
  subst e1 e2 e3 e4 e5
  unfold stepM
  simp only
  rcases Int.lt_or_le op 0 with hneg | hpos
  · rw [show op.toNat = 0 by omega]; exact ⟨rfl, rfl, rfl, rfl, rfl, l1, l2, hr4⟩
  obtain ⟨n, rfl⟩ := Int.eq_ofNat_of_zero_le hpos
  rw [Int.toNat_natCast]
  match n, ha, hb, hk with
  | 0, _, _, _ => exact ⟨rfl, rfl, rfl, rfl, rfl, l1, l2, hr4⟩
  | 1, _, _, _ => exact ⟨rfl, rfl, rfl, rfl, rfl, l1, l2, hr4⟩
  | 2, ha, _, _ => exact ⟨rfl, rfl, by show wrap64 (_ + sr.getD a.toNat 0 * _) = wrap64 (_ + tr.getD a.toNat 0 * _); rw [ha _ rfl (by simp)], rfl, rfl, l1, l2, hr4⟩
  | 3, _, _, _ => exact ⟨rfl, rfl, rfl, rfl, rfl, l1, l2, hr4⟩
  | 4, _, _, _ => exact ⟨rfl, rfl, rfl, rfl, rfl, l1, l2, hr4⟩
  | 5, _, _, hk =>
    have g := hs a.toNat (redD d (shD d ss)) (hk (by simp))
    exact ⟨rfl, rfl, rfl, rfl, rfl, g.l1, g.l2, g.regs⟩
  | 6, _, _, hk => exact hs a.toNat (sm.getD b.toNat 0) (hk (by simp))
  | 7, ha, _, _ => exact ⟨by show sm.set _ (sr.getD a.toNat 0) = sm.set _ (tr.getD a.toNat 0); rw [ha _ rfl (by simp)], rfl, rfl, rfl, rfl, l1, l2, hr4⟩
  | 8, _, hb, _ => exact ⟨by show sm.set _ (sr.getD b.toNat 0) = sm.set _ (tr.getD b.toNat 0); rw [hb _ rfl (by simp)], rfl, rfl, rfl, rfl, l1, l2, hr4⟩
  | 9, _, _, hk => exact hs a.toNat x (hk (by simp))
  | 10, ha, _, _ => exact ⟨rfl, rfl, rfl, by show sr.getD a.toNat 0 = tr.getD a.toNat 0; exact ha _ rfl (by simp), rfl, l1, l2, hr4⟩
  | 11, _, hb, hk =>
    have g := hs a.toNat (tr.getD b.toNat 0) (hk (by simp))
    have e := hb _ rfl (by simp)
    exact ⟨rfl, rfl, rfl, rfl, rfl, by simp [l1], by simp [l2], fun k hk => by have := g.regs k hk; show (sr.set a.toNat (sr.getD b.toNat 0)).getD k 0 = _; rw [e]; exact this⟩
  | n + 12, _, _, _ => exact ⟨rfl, rfl, rfl, rfl, rfl, l1, l2, hr4⟩
theorem Like.fold {d : PrgD} {x : Int} : ∀ (l : List Ins) {s t : Smp}, Like s t → (∀ i ∈ l, i.formed = true ∧ low4 i) → Like (l.foldl (stepM d x) s) (l.foldl (stepM d x) t)
  | [], _, _, h, _ => h
  | i :: l, _, _, h, hl => Like.fold l (h.step (hl i (by simp)).1 (hl i (by simp)).2) fun j hj => hl j (by simp [hj])
theorem like_in4 {d : PrgD} {x : Int} {m n : Mac} (h1 : m.regs.length = 8) (h2 : n.regs.length = 8) (h3 : m.mem = n.mem) (h4 : m.heads = n.heads) : Like (inFour.foldl (stepM d x) (smp0 m)) (inFour.foldl (stepM d x) (smp0 n)) := by
  show Like ⟨(((m.regs.set 0 x).set 1 x).set 2 x).set 3 x, m.mem, m.heads, 0, 0, false⟩ ⟨(((n.regs.set 0 x).set 1 x).set 2 x).set 3 x, n.mem, n.heads, 0, 0, false⟩
  refine ⟨h3, h4, rfl, rfl, rfl, by simp [h1], by simp [h2], fun k hk => ?_⟩
  show ((((m.regs.set 0 x).set 1 x).set 2 x).set 3 x).getD k 0 = ((((n.regs.set 0 x).set 1 x).set 2 x).set 3 x).getD k 0
  have hc : k = 0 ∨ k = 1 ∨ k = 2 ∨ k = 3 := by omega
  rw [getD_setI (by simp [h1]), getD_setI (by simp [h1]), getD_setI (by simp [h1]), getD_setI (by simp [h1]), getD_setI (by simp [h2]), getD_setI (by simp [h2]), getD_setI (by simp [h2]), getD_setI (by simp [h2])]
  rcases hc with rfl | rfl | rfl | rfl <;> simp
theorem forgets {d : PrgD} {x : Int} {m n : Mac} (hl : ∀ i ∈ d.code, i.formed = true ∧ low4 i) (h1 : m.regs.length = 8) (h2 : n.regs.length = 8) (h3 : m.mem = n.mem) (h4 : m.heads = n.heads) : Like (sampF d.in4 x m d.in4.code) (sampF d.in4 x n d.in4.code) := by
  unfold sampF
  show Like ((inFour ++ d.code).foldl (stepM d.in4 x) (smp0 m)) ((inFour ++ d.code).foldl (stepM d.in4 x) (smp0 n))
  rw [List.foldl_append, List.foldl_append]
  exact Like.fold _ (like_in4 h1 h2 h3 h4) hl
end Go.Proofs.YtgdccmmcjicgkaaDoor
