/- Several texts in one: Od Oi S3 S26. -/
import Derived.Test.YtgdccmmcjicgkaaDoorsE31toU5
import Derived.Test.YtgdccmmcjicgkaaDoorsE24
import Derived.Test.YtgdccmmcjicgkaaDoorsE5toE14
import Derived.Test.YtgdccmmcjicgkaaDoorsS1toE21
import Derived.Test.YtgdccmmcjicgkaaDoorsE15toE23
import Derived.Deep.CutBlock
import Derived.Deep.DeepCutAuto
set_option linter.unusedVariables false
set_option linter.unusedSimpArgs false
section
set_option maxRecDepth 100000
namespace Go.Proofs.YtgdccmmcjicgkaaDoor
open Go.Joins Go.ChangeShapes Go.WideShapes Go.RowKit Go.Deep
theorem array5 {α : Type} {cs : Array α} (h : cs.size = 5) : ∃ c0 c1 c2 c3 c4, cs = #[c0, c1, c2, c3, c4] := by
  obtain ⟨l⟩ := cs
  match l, h with
  | [c0, c1, c2, c3, c4], _ => exact ⟨c0, c1, c2, c3, c4, rfl⟩
end Go.Proofs.YtgdccmmcjicgkaaDoor
end
section
set_option maxRecDepth 100000
namespace Go.Proofs.YtgdccmmcjicgkaaDoor
open Go.Joins Go.ChangeShapes Go.WideShapes Go.RowKit Go.Deep
instance : Inhabited Ins := ⟨Ins.zero⟩
theorem trod_Ins {H : Type} {enc : TypeId × Value → H} {w : World} {base fuel : Nat} {v0 v1 v2 v3 : Value} {y : DataW H × List MemPlace}
    (hf : DataW.trod enc Tryd.prog w base (fun _ => true) true fuel 24 [v0, v1, v2, v3] = some y) : ∃ i : Ins, [v0, v1, v2, v3] = i.cells ∧ i.ok := by
  obtain ⟨xs, n, _, _, _, hlen, hf⟩ := DataW.trod_struct Tryd.underlying24 hf
  have ki : Tryd.prog.cellsOf 3 = 1 := by kernel_rfl
  have h0 := hf 0 _ rfl
  have h1 := hf 1 _ rfl
  have h2 := hf 2 _ rfl
  have h3 := hf 3 _ rfl
  obtain ⟨y0, q0⟩ := get_lt hlen (i := 0) (by decide)
  obtain ⟨y1, q1⟩ := get_lt hlen (i := 1) (by decide)
  obtain ⟨y2, q2⟩ := get_lt hlen (i := 2) (by decide)
  obtain ⟨y3, q3⟩ := get_lt hlen (i := 3) (by decide)
  rw [q0] at h0
  rw [q1] at h1
  rw [q2] at h2
  rw [q3] at h3
  clear hf q0 q1 q2 q3
  simp [ki] at h0 h1 h2 h3
  obtain ⟨a0, g0, _, w0⟩ := DataW.trod_int Tryd.underlying3 h0
  obtain ⟨a1, g1, _, w1⟩ := DataW.trod_int Tryd.underlying3 h1
  obtain ⟨a2, g2, _, w2⟩ := DataW.trod_int Tryd.underlying3 h2
  obtain ⟨a3, g3, _, w3⟩ := DataW.trod_int Tryd.underlying3 h3
  simp at g0 g1 g2 g3
  subst g0 g1 g2 g3
  exact ⟨⟨a0, a1, a2, a3⟩, rfl, i64_of_wf w0, i64_of_wf w1, i64_of_wf w2, i64_of_wf w3⟩
end Go.Proofs.YtgdccmmcjicgkaaDoor
end
section
namespace Go.Proofs.YtgdccmmcjicgkaaDoor
open Go.RowKit
structure Mac where
  (regs mem heads : List Int)
  (cyc stl : Int)
structure Smp where
  (regs mem heads : List Int)
  (sum out : Int)
  (ov : Bool)
def rgA (d : PrgD) (a : Int) : Int × Int := d.rg.getD a.toNat (0, 0)
def plc (d : PrgD) (hs : List Int) (a b : Int) : Int := (rgA d a).1 + (hs.getD a.toNat 0 + b) % (rgA d a).2
def redD (d : PrgD) (v : Int) : Int := reduceW d.d0 d.d1 d.d2 d.d3 v
def fitD (d : PrgD) (v : Int) : Bool := fitsW d.d0 d.d1 d.d2 d.d3 v
def shD (d : PrgD) (v : Int) : Int := shiftF v d.c1 d.d2
def stepM (d : PrgD) (x : Int) (s : Smp) (i : Ins) : Smp :=
  match i.op.toNat with
  | 1 => { s with sum := 0 }
  | 2 => { s with sum := wrap64 (s.sum + s.regs.getD i.a.toNat 0 * i.imm) }
  | 3 => { s with sum := wrap64 (s.sum + s.mem.getD i.a.toNat 0 * i.imm) }
  | 4 => { s with sum := wrap64 (s.sum + s.mem.getD (plc d s.heads i.a i.b).toNat 0 * i.imm) }
  | 5 => { s with regs := s.regs.set i.a.toNat (redD d (shD d s.sum)), ov := s.ov || !fitD d (shD d s.sum) }
  | 6 => { s with regs := s.regs.set i.a.toNat (s.mem.getD i.b.toNat 0) }
  | 7 => { s with mem := s.mem.set i.b.toNat (s.regs.getD i.a.toNat 0) }
  | 8 => { s with heads := s.heads.set i.a.toNat ((s.heads.getD i.a.toNat 0 + (rgA d i.a).2 - 1) % (rgA d i.a).2),
                  mem := s.mem.set (plc d (s.heads.set i.a.toNat ((s.heads.getD i.a.toNat 0 + (rgA d i.a).2 - 1) % (rgA d i.a).2)) i.a 0).toNat (s.regs.getD i.b.toNat 0) }
  | 9 => { s with regs := s.regs.set i.a.toNat x }
  | 10 => { s with out := s.regs.getD i.a.toNat 0 }
  | 11 => { s with regs := s.regs.set i.a.toNat (s.regs.getD i.b.toNat 0) }
  | _ => s
def smp0 (m : Mac) : Smp := ⟨m.regs, m.mem, m.heads, 0, 0, false⟩
def sampF (d : PrgD) (x : Int) (m : Mac) (l : List Ins) : Smp := l.foldl (stepM d x) (smp0 m)
theorem sampF_snoc (d : PrgD) (x : Int) (m : Mac) (l : List Ins) (i : Ins) : sampF d x m (l ++ [i]) = stepM d x (sampF d x m l) i := by unfold sampF; rw [List.foldl_append]; rfl
def macN (d : PrgD) (x : Int) (m : Mac) : Mac := ⟨(sampF d x m d.code).regs, (sampF d x m d.code).mem, (sampF d x m d.code).heads, m.cyc + cycF d.code, m.stl + stlF d.code⟩
def runM (d : PrgD) (m : Mac) (xs : List Int) : Mac := xs.foldl (fun m x => macN d x m) m
def runO (d : PrgD) : Mac → List Int → List Int
  | _, [] => []
  | m, x :: xs => (sampF d x m d.code).out :: runO d (macN d x m) xs
def ovN (d : PrgD) (x : Int) (m : Mac) : Int := if (sampF d x m d.code).ov then 1 else 0
def runV (d : PrgD) : Mac → List Int → Int
  | _, [] => 0
  | m, x :: xs => ovN d x m + runV d (macN d x m) xs
theorem runM_append (d : PrgD) (m : Mac) (xs ys : List Int) : runM d m (xs ++ ys) = runM d (runM d m xs) ys := by unfold runM; rw [List.foldl_append]
theorem runO_append (d : PrgD) : ∀ (m : Mac) (xs ys : List Int), runO d m (xs ++ ys) = runO d m xs ++ runO d (runM d m xs) ys
  | _, [], _ => rfl
  | m, x :: xs, ys => by
    show _ :: runO d _ (xs ++ ys) = _ :: (runO d _ xs ++ _)
    rw [runO_append d _ xs ys]; rfl
theorem runV_append (d : PrgD) : ∀ (m : Mac) (xs ys : List Int), runV d m (xs ++ ys) = runV d m xs + runV d (runM d m xs) ys
  | _, [], ys => by show runV d _ ys = 0 + _; rw [Int.zero_add]; rfl
  | m, x :: xs, ys => by
    show _ + runV d _ (xs ++ ys) = _ + runV d _ xs + _
    rw [runV_append d _ xs ys, Int.add_assoc]; rfl
theorem runM_snoc (d : PrgD) (m : Mac) (xs : List Int) (x : Int) : runM d m (xs ++ [x]) = macN d x (runM d m xs) := by rw [runM_append]; rfl
theorem runO_snoc (d : PrgD) (m : Mac) (xs : List Int) (x : Int) : runO d m (xs ++ [x]) = runO d m xs ++ [(sampF d x (runM d m xs) d.code).out] := by rw [runO_append]; rfl
theorem runV_snoc (d : PrgD) (m : Mac) (xs : List Int) (x : Int) : runV d m (xs ++ [x]) = runV d m xs + ovN d x (runM d m xs) := by
  rw [runV_append]
  show _ + (ovN d x _ + 0) = _
  rw [Int.add_zero]
theorem runO_len (d : PrgD) : ∀ (m : Mac) (xs : List Int), (runO d m xs).length = xs.length
  | _, [] => rfl
  | m, x :: xs => by show (runO d _ xs).length + 1 = xs.length + 1; rw [runO_len d _ xs]
theorem runV_in (d : PrgD) : ∀ (m : Mac) (xs : List Int), 0 ≤ runV d m xs ∧ runV d m xs ≤ xs.length
  | _, [] => by show (0 : Int) ≤ 0 ∧ (0 : Int) ≤ ((0 : Nat) : Int); omega
  | m, x :: xs => by
    have := runV_in d (macN d x m) xs
    show 0 ≤ ovN d x m + runV d _ xs ∧ ovN d x m + runV d _ xs ≤ ((xs.length + 1 : Nat) : Int)
    unfold ovN
    split <;> omega
theorem runM_time (d : PrgD) : ∀ (xs : List Int) (m : Mac), (runM d m xs).cyc = m.cyc + xs.length * cycF d.code ∧ (runM d m xs).stl = m.stl + xs.length * stlF d.code
  | [], m => by
    show m.cyc = m.cyc + ((0 : Nat) : Int) * _ ∧ m.stl = m.stl + ((0 : Nat) : Int) * _
    rw [Int.natCast_zero, Int.zero_mul, Int.zero_mul]; omega
  | x :: xs, m => by
    obtain ⟨h1, h2⟩ := runM_time d xs (macN d x m)
    refine ⟨?_, ?_⟩
    · show (runM d (macN d x m) xs).cyc = m.cyc + ((xs.length + 1 : Nat) : Int) * _
      rw [h1]
      show m.cyc + cycF d.code + _ = _
      rw [Int.natCast_succ, Int.add_mul]; omega
    · show (runM d (macN d x m) xs).stl = m.stl + ((xs.length + 1 : Nat) : Int) * _
      rw [h2]
      show m.stl + stlF d.code + _ = _
      rw [Int.natCast_succ, Int.add_mul]; omega
def headsB (rg : List (Int × Int)) (hs : List Int) : Bool := (List.range hs.length).all fun k => decide (0 ≤ hs.getD k 0 ∧ hs.getD k 0 < (rg.getD k (0, 0)).2)
def wordD (d : PrgD) (l : List Int) : Bool := wordsB d.d0 d.d1 d.d2 d.d3 l
structure StOk (d : PrgD) (rs ms hs : List Int) : Prop where
  rl : rs.length = 8
  ml : ms.length = 128
  hl : hs.length = d.rg.length
  rw : wordD d rs = true
  mw : wordD d ms = true
  hw : headsB d.rg hs = true
theorem wordD_at {d : PrgD} {l : List Int} (h : wordD d l = true) {k : Nat} (hk : k < l.length) : fitD d (l.getD k 0) = true := by
  unfold wordD wordsB at h
  rw [List.getD_eq_getElem?_getD, List.getElem?_eq_getElem hk]
  exact List.all_eq_true.1 h _ (List.getElem_mem hk)
theorem wordD_set {d : PrgD} {l : List Int} (h : wordD d l = true) {v : Int} (hv : fitD d v = true) (k : Nat) : wordD d (l.set k v) = true := by
  unfold wordD wordsB at *
  refine List.all_eq_true.2 fun x hx => ?_
  rcases List.mem_or_eq_of_mem_set hx with h1 | rfl
  · exact List.all_eq_true.1 h x h1
  · exact hv
theorem fitD_bound {d : PrgD} {v : Int} (h : fitD d v = true) : -8388608 ≤ v ∧ v ≤ 8388607 := by
  unfold fitD fitsW at h
  rw [Bool.and_eq_true, inB_iff] at h
  have := low_high d.d0 d.d1 d.d2 d.d3
  omega
theorem wrapF_in {b : Int} (h1 : 1 ≤ b) (h2 : b ≤ 62) (s : Int) : -2 ^ (b - 1).toNat ≤ wrapF b s ∧ wrapF b s < 2 ^ (b - 1).toNat := by
  obtain ⟨n, hn⟩ := Int.eq_ofNat_of_zero_le (show 0 ≤ b - 1 by omega)
  obtain rfl : b = (n : Int) + 1 := by omega
  unfold wrapF
  rw [if_pos (inB_iff.2 ⟨h1, h2⟩), show ((n : Int) + 1).toNat = n + 1 by omega, show ((n : Int) + 1 - 1).toNat = n by omega]
  have hp : (0 : Nat) < 2 ^ (n + 1) := Nat.pow_pos (by decide)
  have e : (2 : Nat) ^ (n + 1) = 2 * 2 ^ n := by rw [Nat.pow_succ]; omega
  have a1 := Int.le_bmod (x := s) hp
  have a2 := Int.bmod_lt (x := s) hp
  rw [e] at a1 a2 ⊢
  have hc : ((2 ^ n : Nat) : Int) = 2 ^ n := by simp
  push_cast at a1 a2 ⊢
  omega
theorem fitD_red {d : PrgD} (h : okW d.d0 d.d1 d.d2 d.d3 = true) (v : Int) : fitD d (redD d v) = true := by
  have ho := okW_iff.1 h
  have hl : lowW d.d0 d.d1 d.d2 d.d3 = -2 ^ (d.d0 - 1).toNat := by unfold lowW; rw [if_pos h]
  have hh : highW d.d0 d.d1 d.d2 d.d3 = 2 ^ (d.d0 - 1).toNat - 1 := by unfold highW; rw [if_pos h]
  unfold fitD fitsW redD reduceW
  rw [h, Bool.true_and, if_pos rfl, inB_iff]
  split
  · have := wrapF_in (b := d.d0) (by omega) (by omega) v
    omega
  · have := low_high d.d0 d.d1 d.d2 d.d3
    unfold satW
    omega
theorem headsB_at {rg : List (Int × Int)} {hs : List Int} (h : headsB rg hs = true) {k : Nat} (hk : k < hs.length) : 0 ≤ hs.getD k 0 ∧ hs.getD k 0 < (rg.getD k (0, 0)).2 := by
  unfold headsB at h
  have := List.all_eq_true.1 h k (List.mem_range.2 hk)
  simpa using this
theorem headsB_set {rg : List (Int × Int)} {hs : List Int} (h : headsB rg hs = true) {k : Nat} {v : Int} (hv : 0 ≤ v ∧ v < (rg.getD k (0, 0)).2) : headsB rg (hs.set k v) = true := by
  unfold headsB
  rw [List.length_set]
  refine List.all_eq_true.2 fun j hj => ?_
  have hj := List.mem_range.1 hj
  rw [decide_eq_true_eq]
  have := headsB_at h hj
  by_cases e : k = j
  · subst e
    have e2 : (hs.set k v).getD k 0 = v := by rw [List.getD_eq_getElem?_getD, List.getElem?_set_self (by omega)]; rfl
    rw [e2]; exact hv
  · have e2 : (hs.set k v).getD j 0 = hs.getD j 0 := by rw [List.getD_eq_getElem?_getD, List.getElem?_set_ne e, List.getD_eq_getElem?_getD]
    rw [e2]; exact this
theorem valid_ring {d : PrgD} (h : validB d = true) {k : Nat} (hk : k < d.rg.length) : ringIn (d.rg.getD k (0, 0)) = true := by
  obtain ⟨-, h2, -, -⟩ := valid_parts h
  unfold ringsB at h2
  rw [Bool.and_eq_true] at h2
  refine ringsK_all h2.2 (Nat.le_refl _) _ ?_
  rw [List.getD_eq_getElem?_getD, List.getElem?_eq_getElem hk, List.take_length]
  exact List.getElem_mem hk
theorem valid_suit {d : PrgD} (h : validB d = true) {k : Nat} {i : Ins} (hi : d.code[k]? = some i) : suitB d i = true := by
  obtain ⟨-, -, -, h4⟩ := valid_parts h
  have hk := (List.getElem?_eq_some_iff.1 hi).1
  have := h4 k hk
  unfold goodAt at this
  rw [Bool.and_eq_true, List.getD_eq_getElem?_getD, hi] at this
  exact this.1
theorem suit_mem {d : PrgD} (h : validB d = true) : ∀ i ∈ d.code, suitB d i = true := fun i hi => by
  obtain ⟨k, hk, rfl⟩ := List.getElem_of_mem hi
  exact valid_suit h (List.getElem?_eq_getElem hk)
theorem suit_ring {d : PrgD} {i : Ins} (h : suitB d i = true) (ho : i.op = 4 ∨ i.op = 8) : 0 ≤ i.a ∧ i.a < d.rg.length ∧ (i.op = 4 → 0 ≤ i.b ∧ i.b < (rgA d i.a).2) := by
  unfold suitB at h
  rw [Bool.and_eq_true] at h
  obtain ⟨hf, h⟩ := h
  have hp := formed_parts hf
  unfold fitI at h
  rw [Bool.and_eq_true] at h
  rcases ho with ho | ho
  · rw [if_pos ho] at h
    have := h.1
    simp only [Bool.and_eq_true, decide_eq_true_eq] at this
    exact ⟨hp.2.1.1, this.1, fun _ => ⟨hp.2.2.1.1, this.2⟩⟩
  · rw [if_neg (by omega), if_pos ho] at h
    have := h.1
    simp only [decide_eq_true_eq] at this
    exact ⟨hp.2.1.1, this, fun e => by omega⟩
theorem plc_in {d : PrgD} (hv : validB d = true) {hs : List Int} {a b : Int} (h0 : 0 ≤ a) (h1 : a < d.rg.length) : (rgA d a).1 ≤ plc d hs a b ∧ plc d hs a b < (rgA d a).1 + (rgA d a).2 ∧ 0 ≤ plc d hs a b ∧ plc d hs a b < 128 := by
  have hr := ringIn_iff.1 (valid_ring hv (k := a.toNat) (by omega))
  unfold plc
  unfold rgA at *
  have e1 := Int.emod_nonneg (hs.getD a.toNat 0 + b) (show (d.rg.getD a.toNat (0, 0)).2 ≠ 0 by omega)
  have e2 := Int.emod_lt_of_pos (hs.getD a.toNat 0 + b) (show 0 < (d.rg.getD a.toNat (0, 0)).2 by omega)
  omega
structure SmpOk (d : PrgD) (s : Smp) : Prop where
  st : StOk d s.regs s.mem s.heads
  sum : I64 s.sum
  out : I64 s.out
theorem wrap64_I64 (x : Int) : I64 (wrap64 x) := by
  unfold wrap64 I64
  have := Int.bmod_lt (x := x) (m := 2 ^ 64) (by decide)
  have := Int.le_bmod (x := x) (m := 2 ^ 64) (by decide)
  simp at *
  omega
theorem stepM_ok {d : PrgD} (hv : validB d = true) {x : Int} (hx : fitD d x = true) {s : Smp} (hs : SmpOk d s) {i : Ins} (hi : suitB d i = true) : SmpOk d (stepM d x s i) := by
  obtain ⟨hw1, -, -, -⟩ := valid_parts hv
  have hw : okW d.d0 d.d1 d.d2 d.d3 = true := by unfold okWD at hw1; exact (Bool.and_eq_true_iff.1 hw1).1
  obtain ⟨⟨rl, ml, hl, rw', mw, hw'⟩, h1, h2⟩ := hs
  have hf : i.formed = true := by unfold suitB at hi; exact (Bool.and_eq_true_iff.1 hi).1
  obtain ⟨hop, -, -, -⟩ := formed_parts hf
  have hB : ∀ k : Nat, fitD d (s.regs.getD k 0) = true → I64 (s.regs.getD k 0) := fun k h => by have := fitD_bound h; exact ⟨by omega, by omega⟩
  have hc : i.op = 0 ∨ i.op = 1 ∨ i.op = 2 ∨ i.op = 3 ∨ i.op = 4 ∨ i.op = 5 ∨ i.op = 6 ∨ i.op = 7 ∨ i.op = 8 ∨ i.op = 9 ∨ i.op = 10 ∨ i.op = 11 := by omega
  obtain ⟨op, a, b, imm⟩ := i
  simp only at hc
  have hk := hf
  unfold Ins.formed at hk
  simp only [Bool.and_eq_true] at hk
  rcases hc with rfl | rfl | rfl | rfl | rfl | rfl | rfl | rfl | rfl | rfl | rfl | rfl
  · exact ⟨⟨rl, ml, hl, rw', mw, hw'⟩, h1, h2⟩
  · exact ⟨⟨rl, ml, hl, rw', mw, hw'⟩, ⟨by show (_ : Int) ≤ 0; omega, by show (0 : Int) ≤ _; omega⟩, h2⟩
  · exact ⟨⟨rl, ml, hl, rw', mw, hw'⟩, wrap64_I64 _, h2⟩
  · exact ⟨⟨rl, ml, hl, rw', mw, hw'⟩, wrap64_I64 _, h2⟩
  · exact ⟨⟨rl, ml, hl, rw', mw, hw'⟩, wrap64_I64 _, h2⟩
  · exact ⟨⟨by show (List.set _ _ _).length = 8; rw [List.length_set]; exact rl, ml, hl, wordD_set rw' (fitD_red hw _) _, mw, hw'⟩, h1, h2⟩
  · have hb : 0 ≤ b ∧ b < 128 := by have := hk.1.2; simpa [kB, fitsK] using this
    exact ⟨⟨by show (List.set _ _ _).length = 8; rw [List.length_set]; exact rl, ml, hl, wordD_set rw' (wordD_at mw (by show b.toNat < _; omega)) _, mw, hw'⟩, h1, h2⟩
  · have ha : 0 ≤ a ∧ a < 8 := by have := hk.1.1.2; simpa [kA, fitsK] using this
    exact ⟨⟨rl, by show (List.set _ _ _).length = 128; rw [List.length_set]; exact ml, hl, rw', wordD_set mw (wordD_at rw' (by show a.toNat < _; omega)) _, hw'⟩, h1, h2⟩
  · have hb : 0 ≤ b ∧ b < 8 := by have := hk.1.2; simpa [kB, fitsK] using this
    obtain ⟨a0, a1, -⟩ := suit_ring hi (.inr rfl)
    simp only at a0 a1
    have hr := ringIn_iff.1 (valid_ring hv (k := a.toNat) (by omega))
    have e1 := Int.emod_nonneg (s.heads.getD a.toNat 0 + (rgA d a).2 - 1) (show (rgA d a).2 ≠ 0 by unfold rgA; omega)
    have e2 := Int.emod_lt_of_pos (s.heads.getD a.toNat 0 + (rgA d a).2 - 1) (show 0 < (rgA d a).2 by unfold rgA; omega)
    refine ⟨⟨rl, ?_, ?_, rw', wordD_set mw (wordD_at rw' (by show b.toNat < _; omega)) _, headsB_set hw' ⟨e1, e2⟩⟩, h1, h2⟩
    · show (List.set _ _ _).length = 128
      rw [List.length_set]; exact ml
    · show (List.set _ _ _).length = _
      rw [List.length_set]; exact hl
  · exact ⟨⟨by show (List.set _ _ _).length = 8; rw [List.length_set]; exact rl, ml, hl, wordD_set rw' hx _, mw, hw'⟩, h1, h2⟩
  · have ha : 0 ≤ a ∧ a < 8 := by have := hk.1.1.2; simpa [kA, fitsK] using this
    exact ⟨⟨rl, ml, hl, rw', mw, hw'⟩, h1, hB _ (wordD_at rw' (by show a.toNat < _; omega))⟩
  · have hb : 0 ≤ b ∧ b < 8 := by have := hk.1.2; simpa [kB, fitsK] using this
    exact ⟨⟨by show (List.set _ _ _).length = 8; rw [List.length_set]; exact rl, ml, hl, wordD_set rw' (wordD_at rw' (by show b.toNat < _; omega)) _, mw, hw'⟩, h1, h2⟩
def MacOk (d : PrgD) (m : Mac) : Prop := StOk d m.regs m.mem m.heads
theorem i64_zero : I64 0 := ⟨by decide, by decide⟩
theorem smp0_ok {d : PrgD} {m : Mac} (h : MacOk d m) : SmpOk d (smp0 m) := ⟨h, i64_zero, i64_zero⟩
theorem sampF_ok {d : PrgD} (hv : validB d = true) {x : Int} (hx : fitD d x = true) {m : Mac} (hm : MacOk d m) : ∀ (l : List Ins) (s : Smp), SmpOk d s → (∀ i ∈ l, suitB d i = true) → SmpOk d (l.foldl (stepM d x) s)
  | [], s, h, _ => h
  | i :: l, s, h, hl => sampF_ok hv hx hm l _ (stepM_ok hv hx h (hl i List.mem_cons_self)) fun j hj => hl j (List.mem_cons_of_mem _ hj)
theorem samp_take {d : PrgD} (hv : validB d = true) {x : Int} (hx : fitD d x = true) {m : Mac} (hm : MacOk d m) (k : Nat) : SmpOk d (sampF d x m (d.code.take k)) :=
  sampF_ok hv hx hm _ _ (smp0_ok hm) fun i hi => suit_mem hv i (List.mem_of_mem_take hi)
theorem samp_all {d : PrgD} (hv : validB d = true) {x : Int} (hx : fitD d x = true) {m : Mac} (hm : MacOk d m) : SmpOk d (sampF d x m d.code) :=
  sampF_ok hv hx hm _ _ (smp0_ok hm) fun i hi => suit_mem hv i hi
theorem macN_ok {d : PrgD} (hv : validB d = true) {x : Int} (hx : fitD d x = true) {m : Mac} (hm : MacOk d m) : MacOk d (macN d x m) := (samp_all hv hx hm).st
theorem runM_ok {d : PrgD} (hv : validB d = true) : ∀ (xs : List Int) (m : Mac), wordD d xs = true → MacOk d m → MacOk d (runM d m xs)
  | [], _, _, hm => hm
  | x :: xs, m, hx, hm => by
    unfold wordD wordsB at hx
    rw [List.all_cons, Bool.and_eq_true] at hx
    exact runM_ok hv xs _ hx.2 (macN_ok hv hx.1 hm)
def macB (d : PrgD) (m : Mac) : Bool :=
  validB d && (decide (m.regs.length = 8 ∧ m.mem.length = 128 ∧ m.heads.length = d.rg.length) && (wordD d m.regs && (wordD d m.mem && (headsB d.rg m.heads && (inB m.cyc 0 1099511627776 && inB m.stl 0 1099511627776)))))
theorem macB_parts {d : PrgD} {m : Mac} (h : macB d m = true) : validB d = true ∧ MacOk d m ∧ (0 ≤ m.cyc ∧ m.cyc ≤ 1099511627776) ∧ (0 ≤ m.stl ∧ m.stl ≤ 1099511627776) := by
  unfold macB at h
  simp only [Bool.and_eq_true, decide_eq_true_eq, inB_iff] at h
  obtain ⟨h1, ⟨h2, h3, h4⟩, h5, h6, h7, h8, h9⟩ := h
  exact ⟨h1, ⟨h2, h3, h4, h5, h6, h7⟩, h8, h9⟩
end Go.Proofs.YtgdccmmcjicgkaaDoor
end
section
namespace Go.Proofs.YtgdccmmcjicgkaaDoor
open Go.RowKit
theorem valid_words {d : PrgD} (h : validB d = true) : okW d.d0 d.d1 d.d2 d.d3 = true ∧ okW d.c0 d.c1 d.c2 d.c3 = true := by
  obtain ⟨h1, -⟩ := valid_parts h
  unfold okWD at h1
  exact Bool.and_eq_true_iff.1 h1
def mac0 (d : PrgD) : Mac := ⟨List.replicate 8 0, List.replicate 128 0, List.replicate d.rg.length 0, 0, 0⟩
theorem fitD_zero {d : PrgD} (h : okW d.d0 d.d1 d.d2 d.d3 = true) : fitD d 0 = true := by
  have := low_high d.d0 d.d1 d.d2 d.d3
  unfold fitD fitsW
  rw [h, Bool.true_and, inB_iff]
  have e1 : lowW d.d0 d.d1 d.d2 d.d3 ≤ 0 := by omega
  have e2 : 0 ≤ highW d.d0 d.d1 d.d2 d.d3 := by omega
  exact ⟨e1, e2⟩
theorem wordD_zero {d : PrgD} (h : okW d.d0 d.d1 d.d2 d.d3 = true) (n : Nat) : wordD d (List.replicate n 0) = true := by
  unfold wordD wordsB
  refine List.all_eq_true.2 fun y hy => ?_
  rw [(List.mem_replicate.1 hy).2]
  exact fitD_zero h
theorem getD_rep {n k : Nat} : (List.replicate n (0 : Int)).getD k 0 = 0 := by
  rw [List.getD_eq_getElem?_getD]
  by_cases h : k < n
  · rw [List.getElem?_replicate, if_pos h]; rfl
  · rw [List.getElem?_replicate, if_neg h]; rfl
theorem mac0_ok {d : PrgD} (h : validB d = true) : MacOk d (mac0 d) := by
  refine ⟨by simp [mac0], by simp [mac0], by simp [mac0], wordD_zero (valid_words h).1 _, wordD_zero (valid_words h).1 _, ?_⟩
  unfold headsB mac0
  refine List.all_eq_true.2 fun j hj => ?_
  have hj := List.mem_range.1 hj
  simp only [List.length_replicate] at hj
  rw [decide_eq_true_eq]
  have hr := ringIn_iff.1 (valid_ring h hj)
  simp only [getD_rep]
  omega
end Go.Proofs.YtgdccmmcjicgkaaDoor
end
