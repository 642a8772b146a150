/- Package lattice: Build. -/
import Derived.Test.YtdiflpbioohddaaDoortCptoDh
set_option linter.unusedVariables false
set_option linter.unusedSimpArgs false
namespace Go.Proofs.YtdiflpbioohddaaDoor
open Go.RowKit
theorem add_blk (a : Addr) (k : Nat) : (a.add k).block = a.block := by unfold Addr.add; split <;> rfl
theorem terms_two {w : World} {f y f' y' : Int} {t : TypeId} (h1 : I64 f) (h2 : I64 y) (h3 : I64 f') (h4 : I64 y') : TermsAt (w.alloc (.cells #[.int .i64 f, .int .i64 y, .int .i64 f', .int .i64 y'] t)) (some ⟨w.heap.size, 0, none⟩) [(f, y), (f', y')] := fun k x hk => by
 match k, hk with
 | 0, hk =>
  simp at hk; subst hk
  exact ⟨_, rfl, by simp, by simp [go_sem, Addr.add], by simp [go_sem, Addr.add], h1, h2⟩
 | 1, hk =>
  simp at hk; subst hk
  exact ⟨_, rfl, by simp, by simp [go_sem, Addr.add], by simp [go_sem, Addr.add], h3, h4⟩
def fwL (n p : Nat) : List Int := (List.range (n + 1)).map fun j => if n ≤ j + p then fwI n j else 0
def bkL (n p : Nat) : List Int := (List.range (n + 1)).map fun j => if j = 0 then fwI n 0 else if j ≤ p then 2 * (n : Int) + (j : Int) else 0
def nxL (n p : Nat) : List Int := (List.range n).map fun j => if j < p then (if j = 0 then fwI n 0 else 2 * (n : Int) + (j : Int)) else 0
theorem fwL_zero (n : Nat) : fwL n 0 = List.replicate (n + 1) 0 := by
 refine List.ext_getElem (by simp [fwL]) fun i h1 h2 => ?_
 simp only [fwL, List.getElem_map, List.getElem_range, List.getElem_replicate]
 by_cases e : n ≤ i + 0
 ·have : i = n := by simp [fwL] at h1; omega
  rw [if_pos e, this]; unfold fwI; rw [if_pos rfl]
 ·rw [if_neg e]
theorem fwL_succ {n p j : Nat} (h : j + 1 + p = n) : fwL n (p + 1) = (fwL n p).set j (2 * (n : Int) - (j : Int)) := by
 refine List.ext_getElem (by simp [fwL]) fun i h1 h2 => ?_
 rw [List.getElem_set]
 simp only [fwL, List.getElem_map, List.getElem_range]
 by_cases e : j = i
 ·rw [if_pos e, if_pos (by omega)]; unfold fwI; rw [if_neg (by omega)]; omega
 ·rw [if_neg e]
  by_cases e2 : n ≤ i + p
  ·rw [if_pos (by omega), if_pos e2]
  ·rw [if_neg (by omega), if_neg e2]
theorem fwL_get {n p j : Nat} (h : j ≤ n) : (fwL n p)[j]? = some (if n ≤ j + p then fwI n j else 0) := by
 simp [fwL, Nat.lt_succ_of_le h]
theorem fwL_in {n p j : Nat} (h : n ≤ j + p) (hj : j ≤ n) : (fwL n p)[j]? = some (fwI n j) := by rw [fwL_get hj, if_pos h]
theorem bkL_get {n p j : Nat} (h : j ≤ n) : (bkL n p)[j]? = some (if j = 0 then fwI n 0 else if j ≤ p then 2 * (n : Int) + (j : Int) else 0) := by
 simp [bkL, Nat.lt_succ_of_le h]
theorem bkL_zero (n : Nat) : bkL n 0 = (List.replicate (n + 1) (0 : Int)).set 0 (fwI n 0) := by
 refine List.ext_getElem (by simp [bkL]) fun i h1 h2 => ?_
 rw [List.getElem_set]
 simp only [bkL, List.getElem_map, List.getElem_range, List.getElem_replicate]
 by_cases e : i = 0
 ·rw [if_pos e, if_pos e.symm]
 ·rw [if_neg e, if_neg (by omega), if_neg (fun h => e h.symm)]
theorem bkL_succ {n p : Nat} : bkL n (p + 1) = (bkL n p).set (p + 1) (2 * (n : Int) + ((p + 1 : Nat) : Int)) := by
 refine List.ext_getElem (by simp [bkL]) fun i h1 h2 => ?_
 rw [List.getElem_set]
 simp only [bkL, List.getElem_map, List.getElem_range]
 by_cases e : p + 1 = i
 ·rw [if_pos e, if_neg (by omega), if_pos (by omega), ← e]
 ·rw [if_neg e]
  by_cases e0 : i = 0
  ·rw [if_pos e0, if_pos e0]
  ·rw [if_neg e0, if_neg e0]
   by_cases e2 : i ≤ p
   ·rw [if_pos (by omega), if_pos e2]
   ·rw [if_neg (by omega), if_neg e2]
theorem nxL_zero (n : Nat) : nxL n 0 = List.replicate n 0 := by
 refine List.ext_getElem (by simp [nxL]) fun i h1 h2 => ?_
 simp [nxL]
theorem nxL_all (n : Nat) : nxL n n = laNx n := by
 unfold nxL laNx
 refine List.map_congr_left fun i hi => ?_
 rw [if_pos (by have := List.mem_range.1 hi; omega)]
theorem nxL_get {n p j : Nat} (h : j < n) : (nxL n p)[j]? = some (if j < p then (if j = 0 then fwI n 0 else 2 * (n : Int) + (j : Int)) else 0) := by
 simp [nxL, h]
theorem nxL_succ {n p : Nat} (h : p < n) : nxL n (p + 1) = (nxL n p).set p (if p = 0 then fwI n 0 else 2 * (n : Int) + (p : Int)) := by
 refine List.ext_getElem (by simp [nxL]) fun i h1 h2 => ?_
 rw [List.getElem_set]
 simp only [nxL, List.getElem_map, List.getElem_range]
 by_cases e : p = i
 ·rw [if_pos e, if_pos (by omega), e]
 ·rw [if_neg e]
  by_cases e2 : i < p
  ·rw [if_pos (by omega), if_pos e2]
  ·rw [if_neg (by omega), if_neg e2]
theorem laC_zero (v : List Int) (n : Nat) : laC v n 0 = [(fwI n 0, v.getD 0 0)] := rfl
theorem laC_succ (v : List Int) (n i : Nat) : laC v n (i + 1) = laC v n i ++ [(2 * (n : Int) + (i : Int) + 1, v.getD (i + 1) 0)] := by
 unfold laC
 rw [List.range_succ, List.map_append]; rfl
theorem laC_len (v : List Int) (n i : Nat) : (laC v n i).length = i + 1 := by unfold laC; simp
theorem range_suc {α : Type} (f : Nat → α) (p : Nat) : (List.range (p + 1)).map f = (List.range p).map f ++ [f p] := by rw [List.range_succ, List.map_append]; rfl
theorem fwI_64 {n j : Nat} (h : j ≤ n) (hn : n ≤ 8) : I64 (fwI n j) := by have := fwI_in h; unfold I64; omega
def tlF (b S : Nat) (d c : Int × Int × Int × Int) : Nat → Value → World → Prop
 | 0, v, _ => v = wordV d.1 d.2.1 d.2.2.1 d.2.2.2
 | 1, v, _ => v = wordV c.1 c.2.1 c.2.2.1 c.2.2.2
 | 2, v, _ | 3, v, _ | 5, v, _ => v = .int .i64 (S : Int)
 | 4, v, w => ∃ h, v = .slice (some ⟨h, 0, none⟩) S S ∧ Own b w (.slice (some ⟨h, 0, none⟩) S S) (List.replicate S 0)
 | 6, v, _ => v = .int .i64 (3 * (S : Int))
 | 7, v, _ => v = .int .i64 (3 * (S : Int) + 1)
 | 8, v, w => ∃ h, v = .agg (netL d c (S : Int) (.slice none 0 0) (.slice (some ⟨h, 0, none⟩) S S) (3 * (S : Int) + 1)).toArray ∧ Own b w (.slice (some ⟨h, 0, none⟩) S S) (List.replicate S 0)
 | 9, v, w => ∃ g, v = .pointer (some ⟨g, 0, none⟩) ∧ b ≤ g ∧ w.heap[g]? = some (.cells zNet12.toArray 27 (0, 0))
 | _, _, _ => True
theorem tlF_keep {b S : Nat} {d c : Int × Int × Int × Int} {w w' : World} (h : Below w.heap.size w w') : ∀ i v, tlF b S d c i v w → tlF b S d c i v w'
 | 0, _, e | 1, _, e | 2, _, e | 3, _, e | 5, _, e | 6, _, e | 7, _, e => e
 | 4, _, ⟨g, e, ho⟩ | 8, _, ⟨g, e, ho⟩ => ⟨g, e, ho.grow h⟩
 | 9, _, ⟨g, e, hb, hh⟩ => ⟨g, e, hb, heap_keep h hh⟩
 | _ + 10, _, _ => trivial
def lnG (b : Nat) (us : List Value) (t : List (Int × Int)) (i : Nat) (v : Value) (w : World) : Prop :=
 if i = 16 then ∃ p, v = .slice (some ⟨p, 0, none⟩) 2 2 ∧ TermsF b w (some ⟨p, 0, none⟩) t
 else if i = 17 then ∃ p, v = .agg #[.slice (some ⟨p, 0, none⟩) 2 2] ∧ TermsF b w (some ⟨p, 0, none⟩) t
 else if i = 18 then ∃ r p, v = .slice (some ⟨r, 0, none⟩) 1 1 ∧ Box w r [.slice (some ⟨p, 0, none⟩) 2 2] ∧ TermsF b w (some ⟨p, 0, none⟩) t
 else match us[i]? with | some u => v = u | none => True
theorem lnG_keep {b : Nat} {us : List Value} {t : List (Int × Int)} {w w' : World} (h : Below w.heap.size w w') (i : Nat) (v : Value) (hf : lnG b us t i v w) : lnG b us t i v w' := by
 unfold lnG at hf ⊢
 by_cases h1 : i = 16
 ·rw [if_pos h1] at hf ⊢
  obtain ⟨p, e, ht⟩ := hf
  exact ⟨p, e, ht.grow h⟩
 rw [if_neg h1] at hf ⊢
 by_cases h2 : i = 17
 ·rw [if_pos h2] at hf ⊢
  obtain ⟨p, e, ht⟩ := hf
  exact ⟨p, e, ht.grow h⟩
 rw [if_neg h2] at hf ⊢
 by_cases h3 : i = 18
 ·rw [if_pos h3] at hf ⊢
  obtain ⟨r, p, e, hb, ht⟩ := hf
  exact ⟨r, p, e, hb.keep h, ht.grow h⟩
 rw [if_neg h3] at hf ⊢
 exact hf
def lqF (b : Nat) (us : List Value) (t : List (Int × Int)) (i : Nat) (v : Value) (w : World) : Prop :=
 if i = 7 then ∃ p, v = .slice (some ⟨p, 0, none⟩) 1 1 ∧ OwnTm b w (.slice (some ⟨p, 0, none⟩) 1 1) t
 else if i = 8 then ∃ p, v = .agg #[.slice (some ⟨p, 0, none⟩) 1 1] ∧ OwnTm b w (.slice (some ⟨p, 0, none⟩) 1 1) t
 else if i = 9 then ∃ q, v = .pointer (some ⟨q, 0, none⟩) ∧ b ≤ q ∧ w.heap[q]? = some (.cells #[.slice none 0 0] 36 (0, 0))
 else match us[i]? with | some u => v = u | none => True
theorem lqF_keep {b : Nat} {us : List Value} {t : List (Int × Int)} {w w' : World} (h : Below w.heap.size w w') (i : Nat) (v : Value) (hf : lqF b us t i v w) : lqF b us t i v w' := by
 unfold lqF at hf ⊢
 by_cases h1 : i = 7
 ·rw [if_pos h1] at hf ⊢
  obtain ⟨p, e, ht⟩ := hf
  exact ⟨p, e, ht.grow h⟩
 rw [if_neg h1] at hf ⊢
 by_cases h2 : i = 8
 ·rw [if_pos h2] at hf ⊢
  obtain ⟨p, e, ht⟩ := hf
  exact ⟨p, e, ht.grow h⟩
 rw [if_neg h2] at hf ⊢
 by_cases h3 : i = 9
 ·rw [if_pos h3] at hf ⊢
  obtain ⟨q, e, hb, hh⟩ := hf
  exact ⟨q, e, hb, heap_keep h hh⟩
 rw [if_neg h3] at hf ⊢
 exact hf
def ltF (b : Nat) (us : List Value) (t : List (Int × Int)) (i : Nat) (v : Value) (w : World) : Prop :=
 if i = 11 then ∃ p, v = .slice (some ⟨p, 0, none⟩) 1 1 ∧ TermsF b w (some ⟨p, 0, none⟩) t
 else match us[i]? with | some u => v = u | none => True
theorem ltF_keep {b : Nat} {us : List Value} {t : List (Int × Int)} {w w' : World} (h : Below w.heap.size w w') (i : Nat) (v : Value) (hf : ltF b us t i v w) : ltF b us t i v w' := by
 unfold ltF at hf ⊢
 by_cases h1 : i = 11
 ·rw [if_pos h1] at hf ⊢
  obtain ⟨p, e, ht⟩ := hf
  exact ⟨p, e, ht.grow h⟩
 rw [if_neg h1] at hf ⊢
 exact hf
def vlF (us : List Value) (i : Nat) (v : Value) (_ : World) : Prop := match us[i]? with | some u => v = u | none => True
theorem size_nodeL : (Tryd.prog.info? 36).map (·.size) = some 1 := by kernel_rfl
theorem tm_type {base g n c : Nat} {w : World} {l : List (Int × Int)} {q : Nat} {cs : Array Value} {t : TypeId} (h : OwnTm base w (.slice (some ⟨g, 0, none⟩) n c) l) (hq : w.heap[q]? = some (.cells cs t (0, 0))) (ht : t ≠ 80) : g ≠ q := fun e => by
 subst e
 obtain ⟨-, h2 | ⟨g', cap, cur, hv, -, hg, -⟩⟩ := h.1
 ·have := h2.1; simp at this
 ·injection hv with hv
  injection hv with hv
  injection hv with hv
  rw [← hv, hq] at hg
  injection hg with hg
  injection hg with _ hg
  exact ht hg
set_option maxRecDepth 100000 in
set_option maxHeartbeats 16000000 in
theorem lt_Build (A B : Option Addr) (ca cb n : Nat) (k v : List Int) (d c : Int × Int × Int × Int) (w : World) (hA : Ints w A k) (hB : Ints w B v) (ha : k.length = n) (hb : v.length = n + 1)
  (hd : okW d.1 d.2.1 d.2.2.1 d.2.2.2 = true) (hc : okW c.1 c.2.1 c.2.2.1 c.2.2.2 = true) (hn : n ≤ 8) (fv : ∀ x ∈ v, fitsW c.1 c.2.1 c.2.2.1 c.2.2.2 x = true) (fk : ∀ x ∈ k, (fitsW c.1 c.2.1 c.2.2.1 c.2.2.2 x = true ∧ fitsW c.1 c.2.1 c.2.2.1 c.2.2.2 (-x) = true) ∧ -(2 ^ c.2.1.toNat) < x ∧ x < 2 ^ c.2.1.toNat) :
  Calls Tryd.prog 49 #[.slice A n ca, .slice B (n + 1) cb, wordV d.1 d.2.1 d.2.2.1 d.2.2.2, wordV c.1 c.2.1 c.2.2.1 c.2.2.2] w (RetND w ⟨d.1, d.2.1, d.2.2.1, d.2.2.2, c.1, c.2.1, c.2.2.1, c.2.2.2, (n : Int), 3 * (n : Int) + 1, laNs k v (2 ^ c.2.1.toNat) n, laNx n⟩ 0) := by
 have QW : Hid (∀ w1, Below w.heap.size w w1 → Calls Tryd.prog 77 #[.slice A n ca, .slice B (n + 1) cb, wordV c.1 c.2.1 c.2.2.1 c.2.2.2] w1 fun e w' => e = .returned (.int .i64 0) ∧ Below w1.heap.size w1 w') := fun w1 h => la_wrong A B ca cb n k v c w1 (hA.grow h) (hB.grow h) ha hb hc hn fv fk
 obtain ⟨o1, o2, o3, o4, -⟩ := okW_iff.1 hc
 have HLA := Lib.hid ha
 have HLB := Lib.hid hb
 have HA := Lib.hid hA
 have HB := Lib.hid hB
 have HD := Lib.hid hd
 have FK : Hid (∀ x ∈ k, -9223372036854775807 ≤ x ∧ x ≤ 9223372036854775807) := fun x hx => fits_24 (fk x hx).1.1
 obtain ⟨V, hV⟩ : ∃ V, V = n + 1 := ⟨_, rfl⟩
 rw [← hV] at QW ⊢
 have HV := Lib.hid hV
 obtain ⟨d0, d1, d2, d3⟩ := d
 obtain ⟨c0, c1, c2, c3⟩ := c
 simp only at QW HD o1 o2 o3 o4 ⊢
 have wV : IntKind.i64.wrap ((n : Int) + 1) = (V : Int) := (IntWalk.i64_in _ (by omega)).trans (by omega)
 have hV9 : V ≤ 9 := by omega
 have H23 := Lib.hid (unit_23 hc).2
 clear hd hc fv fk ha hb hA hB hV
 go_enter Tryd.func49, Tryd.ntmps49
 go_upto_region 1 with fail
 obtain ⟨⟨b0, b1⟩, b2, hb0⟩ := entry3b (t := 23) (u := 23) (v := 27) w [.int .i64 d0, .int .i64 d1, .int .i64 d2, .int .i64 d3] [.int .i64 c0, .int .i64 c1, .int .i64 c2, .int .i64 c3] zNet12 _ rfl
 change Code.wp _ _ _ _ (((w.alloc (.cells [.int .i64 d0, .int .i64 d1, .int .i64 d2, .int .i64 d3].toArray 23)).alloc (.cells [.int .i64 c0, .int .i64 c1, .int .i64 c2, .int .i64 c3].toArray 23)).alloc (.cells zNet12.toArray 27))
 generalize (((w.alloc (.cells [.int .i64 d0, .int .i64 d1, .int .i64 d2, .int .i64 d3].toArray 23)).alloc (.cells [.int .i64 c0, .int .i64 c1, .int .i64 c2, .int .i64 c3].toArray 23)).alloc (.cells zNet12.toArray 27)) = W1 at b0 b1 b2 hb0 ⊢
 obtain ⟨z0, z1, z2, z3⟩ := b0.c4
 have B0 := Lib.hid b0
 have B1 := Lib.hid b1
 have B2 := Lib.hid b2
 have HW1 := Lib.hid hb0
 clear b0 b1 b2 hb0
 go_upto_region 3 with (go_at_call 67; (with_reducible refine (fx_Valid_is (b := d0) (f := d1) (r := d2) (o := d3) HD.out _).mono ?_); rintro e9 w9 ⟨rfl, hb9⟩; have HB9 := Lib.hid hb9; clear hb9)
 have HW9 := Lib.hid (below_then HW1.out HB9.out)
 obtain ⟨y0, y1, y2, y3⟩ := (B1.out.keep HB9.out).c4
 clear z0 z1 z2 z3
 go_upto_region 6 with (go_at_call 77; (with_reducible refine (QW.out _ HW9.out).mono ?_); rintro e2 w2 ⟨rfl, hb2⟩; have HB2 := Lib.hid (below_then HB9.out hb2); clear hb2)
 have HW2 := Lib.hid (below_then HW1.out HB2.out)
 have D0 := Lib.hid (B0.out.keep HB2.out)
 have D1 := Lib.hid (B1.out.keep HB2.out)
 have D2 := Lib.hid (B2.out.keep HB2.out)
 clear HB2 HW1 B0 B1 B2 QW y0 y1 y2 y3 HB9 HW9
 obtain ⟨y0, y1, y2, y3⟩ := D1.out.c4
 obtain ⟨Q, hQ⟩ : ∃ Q, (2 : Int) ^ c1.toNat = Q := ⟨_, rfl⟩
 have q0 : 0 < Q := by rw [← hQ]; exact pow_pos' _
 have q1 : IntKind.i64.wrap ((2 : Int) ^ c1.toNat) = Q := by rw [← hQ]; exact IntWalk.i64_in _ (by have := pow_pos' c1.toNat; have := pow_62 (n := c1.toNat) (by omega); omega)
 have q3 : Q ≤ 8388608 := by rw [← hQ]; exact H23.out
 have q2 : wrap64 Q = Q := by unfold wrap64; omega
 have HQ := Lib.hid hQ
 have o5 : c1.toNat ≤ 61 := by omega
 go_upto_region 8 with fail
 have HQI : Hid (I64 Q) := Lib.hid ⟨by omega, by omega⟩
 clear q0 q1 q2 q3 o5 y0 y1 y2 y3 hQ
 have w3 : IntKind.i64.wrap (3 * (n : Int)) = 3 * (n : Int) := IntWalk.i64_in _ (by omega)
 have w31 : IntKind.i64.wrap (3 * (n : Int) + 1) = 3 * (n : Int) + 1 := IntWalk.i64_in _ (by omega)
 refine wp_region_grow2 (fun i => Nat.blt i 10) (fun _ => false) (fun w3 => Below w2.heap.size w2 w3) (fun a b => Below a.heap.size a b) (tlF w2.heap.size n (d0, d1, d2, d3) (c0, c1, c2, c3)) (by kernel_rfl) (by kernel_rfl) (Below.refl _ _).drew (fun a b h1 h2 => ⟨below_then h1 h2, fun i _ v => tlF_keep h2 i v⟩) (fun _ _ => Below.refl _ _) ?_ (fun _ _ _ _ h => by cases h) ?_
 ·refine ⟨?_, ?_, ?_, ?_, ?_, ?_, ?_, ?_, ?_, ?_, trivial⟩
  all_goals
   intro vs w4 hp hF
   obtain ⟨z0, z1, z2, z3⟩ := (D0.out.keep hp).c4
   obtain ⟨y0, y1, y2, y3⟩ := (D1.out.keep hp).c4
   simp [depsB, Region.binds, tlF] at hF
   simp [stL, depsB, Region.binds, Act.put, hF]
  all_goals try (go_wp2_with fail; exact ⟨rfl, Below.refl _ _⟩)
  ·refine mk_int rfl _ _ rfl w4.heap.size n rfl rfl rfl (by omega) (Nat.le_refl _) ?_
   intro w6 ho6 hb6
   exact wpList_nil ⟨rfl, _, rfl, ⟨_, rfl, ho6.base hp.size⟩, hb6⟩
  ·obtain ⟨-, -, -, ⟨h, e4, ho⟩, -⟩ := hF
   rw [e4]
   refine wp_bldR rfl 27 _ rfl _ rfl (built_net5 d0 d1 d2 d3 c0 c1 c2 c3 (n : Int) (3 * (n : Int) + 1) (some ⟨h, 0, none⟩) n n) ?_
   exact wpList_nil ⟨rfl, _, rfl, ⟨h, rfl, ho⟩, Below.refl _ _⟩
  ·go_wp2_with fail
   exact ⟨⟨_, rfl, hp.size, heap_new _ _⟩, Below.alloc (Below.refl _ _) (Nat.le_refl _) _⟩
 intro vs w4 hp hF
 have e7 := hF 8 (by decide) rfl
 have e8 := hF 9 (by decide) rfl
 obtain ⟨h, e7, ho3⟩ := e7
 obtain ⟨g, e8, hgb, hgh⟩ := e8
 show wpList Tryd.prog _ _ [_] _ _
 simp [stL, Act.put, e7, e8]
 generalize vs 0 = x10
 generalize vs 1 = x11
 generalize vs 2 = x12
 generalize vs 3 = x13
 generalize vs 4 = x14
 generalize vs 5 = x15
 generalize vs 6 = x16
 generalize vs 7 = x17
 have hne := own_type ho3 hgh (by decide)
 refine st_netL (box_heap hgh) rfl (L := netL (d0, d1, d2, d3) (c0, c1, c2, c3) (n : Int) (.slice none 0 0) (.slice (some ⟨h, 0, none⟩) n n) (3 * (n : Int) + 1)) rfl rfl rfl _ _ rfl rfl rfl ?_
 intro W4 hbx hgx
 have HG4 := Lib.hid hbx
 have HO4 : Hid (Own w2.heap.size W4 (.slice (some ⟨h, 0, none⟩) n n) (List.replicate n 0)) := Lib.hid ⟨ho3.1.kept hgx (.inr (fun e => hne (by injection e with e; exact e.symm))), ho3.2⟩
 have HB4 := Lib.hid (grown_to hp hgx hgb)
 have HNE := Lib.hid hne
 have HGB := Lib.hid hgb
 have hhl := HO4.out.block
 have hgl := HG4.out.1
 have HHB := Lib.hid hhl.1
 clear hF e7 e8 hgh hgb hbx hgx ho3 hp hne w3 w31
 go_upto_region 10 with (at_make; refine mk_int rfl _ _ rfl W4.heap.size V rfl rfl rfl (by omega) (Nat.le_refl _) ?_; intro W5 ho5 hb5)
 obtain ⟨f, hf⟩ : ∃ f, f = W4.heap.size := ⟨_, rfl⟩
 rw [← hf] at ho5 hhl hgl
 have hn1 : h < f ∧ g < f := ⟨hhl.2, hgl⟩
 have HHG := Lib.hid hn1
 have HG5 := Lib.hid (HG4.out.keep hb5)
 have HO5 := Lib.hid (HO4.out.grow hb5)
 have HW5 := Lib.hid (below_then HB4.out hb5)
 have hfB : w2.heap.size ≤ f := by rw [hf]; exact HB4.out.size
 have HF5 : Hid (Own w2.heap.size W5 (.slice (some ⟨f, 0, none⟩) V V) (fwL n 0)) := by rw [fwL_zero, ← HV.out]; exact Lib.hid (ho5.base hfB)
 rw [← hf]
 have HA2 : Hid (∀ w1, Below w2.heap.size w2 w1 → Ints w1 A k) := Lib.hid fun w1 hb => (HA.out.grow (below_then HW2.out hb))
 have HB2 : Hid (∀ w1, Below w2.heap.size w2 w1 → Ints w1 B v) := Lib.hid fun w1 hb => (HB.out.grow (below_then HW2.out hb))
 have HW2L := Lib.hid D2.out.1
 obtain ⟨bd, hBs⟩ : ∃ ad, B = some ad := by
  obtain ⟨ad, _, e, _⟩ := HB.out.at_ (k := 0) (by rw [HLB.out]; omega)
  exact ⟨ad, e⟩
 subst hBs
 clear ho5 hb5 hhl hgl hn1 hfB hf HG4 HO4 HB4 HA HB
 go_wp2_with fail
 go_loopw [15] (fun i wr => ∃ (ii p : Nat) (NA : Option Addr) (nc : Nat), i = .int .i64 ii ∧ Hid (ii + p = n) ∧ Hid (Box wr g (netL (d0, d1, d2, d3) (c0, c1, c2, c3) (n : Int) (.slice NA p nc) (.slice (some ⟨h, 0, none⟩) n n) (3 * (n : Int) + 1))) ∧ Hid (Own w2.heap.size wr (.slice (some ⟨h, 0, none⟩) n n) (List.replicate n 0)) ∧ Hid (Own w2.heap.size wr (.slice (some ⟨f, 0, none⟩) V V) (fwL n p)) ∧ Hid (NdA [g, h, f] w2.heap.size wr (.slice NA p nc) ((List.range p).map (laA k Q n))) ∧ Hid (Below w2.heap.size w2 wr)) (fun i _ => (intOf i).toNat)
 case atStart => exact ⟨n, 0, none, 0, rfl, Lib.hid rfl, HG5, HO5, HF5, Lib.hid NdA.nil, HW5⟩
 case round =>
  clear HG5 HO5 HF5 HW5
  obtain ⟨ii, p, NA, nc, rfl, HIP, HG, HO, HF, HN, HB⟩ := hrel
  by_cases h1 : 1 ≤ ii
  ·have x1 : (1 : Int) ≤ (ii : Int) := by omega
   have hip := HIP.out
   obtain ⟨j, hj⟩ : ∃ j, ii = j + 1 := ⟨ii - 1, by omega⟩
   have HJ := Lib.hid hj
   obtain ⟨Y, hY⟩ : ∃ Y : Int, Y = 2 * (n : Int) - (j : Int) := ⟨_, rfl⟩
   have HY := Lib.hid hY
   have y3 : IntKind.i64.wrap ((ii : Int) - 1) = (j : Int) := (IntWalk.i64_in _ (by omega)).trans (by omega)
   have y4 : (0 : Int) ≤ (j : Int) := by omega
   have y5 : (j : Int) < (V : Int) := by have := HV.out; omega
   have y6 : (0 : Int) ≤ (ii : Int) := by omega
   have y7 : (ii : Int) < (V : Int) := by have := HV.out; omega
   have y8 : (j : Int) < (n : Int) := by omega
   have e1 : IntKind.i64.wrap (1 + (n : Int)) = 1 + (n : Int) := IntWalk.i64_in _ (by omega)
   have e2 : IntKind.i64.wrap (1 + (n : Int) + (n : Int)) = 1 + (n : Int) + (n : Int) := IntWalk.i64_in _ (by omega)
   have e3 : IntKind.i64.wrap (1 + (n : Int) + (n : Int) - (ii : Int)) = Y := (IntWalk.i64_in _ (by omega)).trans (by omega)
   have ct := HF.out.cell (fwL_get (p := p) (show j ≤ n by omega))
   have cf := HF.out.free j
   have hA1 := add_cellsO f 0 j
   rw [Nat.zero_add] at hA1
   have hYI : I64 Y := ⟨by omega, by omega⟩
   have HYI := Lib.hid hYI
   have HFS := Lib.hid (fwL_succ (n := n) (p := p) (j := j) (by omega))
   clear h1 hj hY hYI
   go_upto_region 14 with fail
   have hg1 := grown_set (k := j) (u := .int .i64 Y) (grown_refl wr (some f))
   have hG1 := HG.out.past (k := j) (b := f) (u := .int .i64 Y) (by have := HHG.out; omega)
   have hO1 := own_far HO.out hg1 (by have := HHG.out; omega)
   have hF1 : Own w2.heap.size (wr.setCell ⟨f, j, none⟩ (.int .i64 Y)) (.slice (some ⟨f, 0, none⟩) V V) (fwL n (p + 1)) := by rw [HFS.out, ← HY.out]; exact HF.out.set j HYI.out
   have hN1 := HN.out.away hg1 (by simp)
   have hB1 : Below w2.heap.size w2 (wr.setCell ⟨f, j, none⟩ (.int .i64 Y)) := below_set HB.out HF.out.block.1
   generalize wr.setCell ⟨f, j, none⟩ (.int .i64 Y) = v1 at hG1 hO1 hF1 hN1 hB1 ⊢
   have HG1 := Lib.hid hG1
   have HO1 := Lib.hid hO1
   have HF1 := Lib.hid hF1
   have HN1 := Lib.hid hN1
   have HB1 := Lib.hid hB1
   have hKA := HA2.out _ hB1
   have HFI := Lib.hid (fwL_in (n := n) (p := p + 1) (j := ii) (by omega) (by omega))
   obtain ⟨kd, xk, rfl, hkb, hkx, hkc, ki1, ki2⟩ := hKA.at_ (k := j) (by rw [HLA.out]; omega)
   have hxk := FK.out xk (List.mem_of_getElem? hkx)
   have y9 : IntKind.i64.wrap (-xk) = -xk := IntWalk.i64_in _ (by omega)
   obtain ⟨W, hW⟩ : ∃ W, W = fwI n ii := ⟨_, rfl⟩
   rw [← hW] at HFI
   have hWI : I64 W := by rw [hW]; exact fwI_64 (by omega) hn
   have hlA : laA k Q n p = [(W, Q), ((ii : Int), -xk)] := by
    unfold laA
    rw [show n - p = ii by omega, ← hW, show ii - 1 = j by have := HJ.out; omega, List.getD_eq_getElem?_getD, hkx]
    have : (n : Int) - (p : Int) = (ii : Int) := by omega
    rw [this]; rfl
   have HLL := Lib.hid hlA
   have HTI : Hid (I64 W ∧ I64 (ii : Int) ∧ I64 (-xk)) := Lib.hid ⟨hWI, ⟨by omega, by omega⟩, ⟨by omega, by omega⟩⟩
   have HHW := Lib.hid hW
   have HKC := Lib.hid hkc
   have HKB := Lib.hid hkb
   have HN1' := Lib.hid (fun q e => ((HN1.out.lt q e).1.2 : q < v1.heap.size))
   have HIP2 := Lib.hid hip
   clear hG1 hO1 hF1 hN1 hB1 hg1 ct cf HF HG HO HN HB HFS hKA hkx ki1 ki2 hxk hWI hlA hW hkb hkc e1 e2 e3 HIP hip HYI HY
   refine wp_region_grow8 (fun x => Nat.blt x 19) (fun _ => false) (fun wx => Below v1.heap.size v1 wx) (fun a b => Below a.heap.size a b) (lnG v1.heap.size [.pointer (some ⟨g, 9, none⟩), .slice NA p nc, .slice (some ⟨f, 0, none⟩) V V, .int .i64 ii, .pointer (some ⟨f, ii, none⟩), .int .i64 W, .int .i64 Q, .agg #[.int .i64 W, .int .i64 Q], .int .i64 ii, .slice (some kd) n ca, .int .i64 ii, .int .i64 j, .pointer (some (kd.add j)), .int .i64 xk, .int .i64 (-xk), .agg #[.int .i64 ii, .int .i64 (-xk)]] [(W, Q), ((ii : Int), -xk)]) (by kernel_rfl) (by kernel_rfl) (Below.refl _ _).drew (fun a b h1 h2 => ⟨below_then h1 h2, fun i _ v => lnG_keep h2 i v⟩) (fun _ _ => Below.refl _ _) ?_ (fun _ _ _ _ h => by cases h) ?_
   ·refine ⟨?_, ?_, ?_, ?_, ?_, ?_, ?_, ?_, ?_, ?_, ?_, ?_, ?_, ?_, ?_, ?_, ?_, ?_, ?_, trivial⟩
    all_goals
     intro vs w5 hp hF
     have c1' : w5.cell? ⟨g, 9, none⟩ = some (.slice NA p nc) := (HG1.out.keep hp).2.1 9
     have c2' : w5.cell? ⟨f, ii, none⟩ = some (.int .i64 W) := (HF1.out.grow hp).cell HFI.out
     have c3' : w5.cell? (kd.add j) = some (.int .i64 xk) := (hp.cell (by rw [add_blk]; exact HKB.out)).trans HKC.out
     have hA1 := add_cellsO f 0 ii
     rw [Nat.zero_add] at hA1
     have HP5 := Lib.hid hp
     clear hp
     simp [depsB, Region.binds, lnG] at hF
     simp [stL, depsB, Region.binds, Act.put, hF]
    all_goals try (go_wp2_with fail; exact ⟨rfl, Below.refl _ _⟩)
    ·go_wp2_with fail
     exact ⟨⟨_, rfl, terms_two HTI.out.1 HQI.out HTI.out.2.1 HTI.out.2.2, fun a e => by injection e with e; subst e; exact HP5.out.size⟩, Below.alloc (Below.refl _ _) (Nat.le_refl _) _⟩
    ·obtain ⟨p6, e16, t16⟩ := hF
     simp only [e16]
     go_wp2_with fail
     exact ⟨⟨p6, rfl, t16⟩, Below.refl _ _⟩
    ·obtain ⟨p6, e17, t17⟩ := hF
     simp only [e17]
     go_wp2_with fail
     have hb6 : Below w5.heap.size w5 (w5.alloc (.cells #[.slice (some ⟨p6, 0, none⟩) 2 2] 36)) := Below.alloc (Below.refl _ _) (Nat.le_refl _) _
     exact ⟨⟨_, p6, rfl, Box.new rfl, t17.grow hb6⟩, hb6⟩
   intro vs w5 hp hF
   have e1 : vs 1 = .slice NA p nc := hF 1 (by decide) rfl
   obtain ⟨r, p6, e18, hbr, htp⟩ : ∃ r p6, vs 18 = .slice (some ⟨r, 0, none⟩) 1 1 ∧ Box w5 r [.slice (some ⟨p6, 0, none⟩) 2 2] ∧ TermsF v1.heap.size w5 (some ⟨p6, 0, none⟩) [(W, Q), ((ii : Int), -xk)] := hF 18 (by decide) rfl
   show wpList Tryd.prog _ _ [_, _, _] _ _
   simp [stL, Act.put, e1, e18]
   have HG5 := Lib.hid (HG1.out.keep hp)
   have HO5 := Lib.hid (HO1.out.grow hp)
   have HF5 := Lib.hid (HF1.out.grow hp)
   have HN5 := Lib.hid (HN1.out.grow hp)
   have HB5 := Lib.hid (below_then HB1.out hp)
   have hps := hp.size
   have hfl := HF1.out.block.2
   have hhg := HHG.out
   have hgX : ∀ x ∈ [g, h, f], x < v1.heap.size := fun x hx => by
    simp only [List.mem_cons, List.not_mem_nil, or_false] at hx
    rcases hx with rfl | rfl | rfl <;> omega
   have hlenN : ((List.range p).map (laA k Q n)).length = p := by simp
   clear hF e1 e18 hp HG1 HO1 HF1 HN1
   refine app_ndA w5 rfl _ _ rfl [g, h, f] w2.heap.size HN5.out rfl rfl (hbr.2.1 0) (l := [(W, Q), ((ii : Int), -xk)]) rfl htp.1 (fun _ a e => ?_) (by rw [hlenN]; have := HIP2.out; omega) HB5.out.size (fun x hx => Nat.lt_of_lt_of_le (hgX x hx) hps) ?_
   ·have hb1 := htp.2 a e
    exact ⟨⟨fun e2 => by have := (HN1'.out _ e2.symm); omega, by have := HB1.out.size; omega⟩, fun hx => by have := hgX _ hx; omega⟩
   intro v6 w6 ho6 hg6
   obtain ⟨N6, c6, e6⟩ := ho6.form
   rw [← HLL.out, ← range_suc, List.length_map, List.length_range] at e6
   rw [← HLL.out, ← range_suc] at ho6
   subst e6
   have hNX : ∀ y ∈ [g, h, f], some y ≠ (Value.slice NA p nc).ownBlock := fun y hy e => (HN5.out.lt y e.symm).2 hy
   have hB6 := HG5.out.grown hg6 (hNX g (by simp))
   have HO6 := Lib.hid (⟨HO5.out.1.kept hg6 (.inr (fun e => hNX h (by simp) e)), HO5.out.2⟩ : Own w2.heap.size w6 (.slice (some ⟨h, 0, none⟩) n n) (List.replicate n 0))
   have HF6 := Lib.hid (⟨HF5.out.1.kept hg6 (.inr (fun e => hNX f (by simp) e)), HF5.out.2⟩ : Own w2.heap.size w6 (.slice (some ⟨f, 0, none⟩) V V) (fwL n (p + 1)))
   have HB6 := Lib.hid (HB5.out.grown hg6 HB5.out.size (fun y e => (HN5.out.lt y e).1.1))
   have HG6 := Lib.hid hB6
   have HN6 := Lib.hid ho6
   have t9 : w6.cell? ⟨g, 9, none⟩ = some (.slice NA p nc) := hB6.2.1 9
   have tf9 := hB6.2.2
   clear hps hfl hhg hgX hlenN hNX hB6 HG5 HO5 HF5 HN5 HB5 hbr htp hg6 ho6 HN1'
   go_wp2_with fail
   go_roundw
   case rel =>
    have hs := grown_set (k := 9) (u := .slice N6 (p + 1) c6) (grown_refl w6 (some g))
    exact ⟨j, p + 1, N6, c6, rfl, Lib.hid (by have := HIP2.out; have := HJ.out; omega), Lib.hid (HG6.out.set (k := 9) (by show 9 < 12; omega)), Lib.hid (own_far HO6.out hs (fun e => HNE.out e.symm)), Lib.hid (own_far HF6.out hs (by have := HHG.out; omega)), Lib.hid (HN6.out.away hs (by simp)), Lib.hid (below_set HB6.out HGB.out)⟩
   case measure => have := HJ.out; simp [intOf]; omega
  ·have x1 : ¬ (1 : Int) ≤ (ii : Int) := by omega
   obtain rfl : n = p := by have := HIP.out; omega
   obtain ⟨w4, rfl⟩ : ∃ w4 : World, w4 = wr := ⟨_, rfl⟩
   have hszB := HB.out.size
   go_upto_region 16 with (at_make; refine mk_int rfl _ _ rfl w4.heap.size V rfl rfl rfl (by omega) (Nat.le_refl _) ?_; intro W7 ho7 hb7)
   obtain ⟨bk, hbk⟩ : ∃ bk, bk = w4.heap.size := ⟨_, rfl⟩
   have hlt := HG.out.1
   have hlth := HO.out.block.2
   have hltf := HF.out.block.2
   rw [← hbk] at ho7 hlt hlth hltf hszB ⊢
   have HLT : Hid ((g < bk ∧ h < bk ∧ f < bk) ∧ w2.heap.size ≤ bk) := Lib.hid ⟨⟨hlt, hlth, hltf⟩, hszB⟩
   have HN7 := Lib.hid ((HN.out.more (y := bk) (by omega)).grow hb7)
   have HG7 := Lib.hid (HG.out.keep hb7)
   have HO7 := Lib.hid (HO.out.grow hb7)
   have HF7 := Lib.hid (HF.out.grow hb7)
   have HB7 := Lib.hid (below_then HB.out hb7)
   have HK7 := Lib.hid (ho7.base hszB)
   have hKB := HA2.out _ HB7.out
   have hVB := HB2.out _ HB7.out
   obtain ⟨W, hW⟩ : ∃ W, W = fwI n 0 := ⟨_, rfl⟩
   have hWI : I64 W := by rw [hW]; exact fwI_64 (by omega) hn
   have HWI := Lib.hid hWI
   have HHW := Lib.hid hW
   have y7 : (0 : Int) < (V : Int) := by have := HV.out; omega
   have ct := HF7.out.cell (fwL_in (n := n) (p := n) (j := 0) (by omega) (by omega))
   rw [← hW] at ct
   have cb0 := HK7.out.cell (k := 0) (y := 0) (by rw [List.getElem?_replicate]; rw [if_pos (by have := HV.out; omega)])
   have cf0 := HK7.out.free 0
   clear hszB hbk hlt hlth hltf ho7 hb7 HG HO HF HN HB hWI hW hKB hVB HIP x1
   go_upto_region 17 with fail
   have hs8 := grown_set (k := 0) (u := .int .i64 W) (grown_refl W7 (some bk))
   have hG8 := HG7.out.past (k := 0) (b := bk) (u := .int .i64 W) (by have := HLT.out; omega)
   have hO8 := own_far HO7.out hs8 (by have := HLT.out; omega)
   have hF8 := own_far HF7.out hs8 (by have := HLT.out; omega)
   have hK8 : Own w2.heap.size (W7.setCell ⟨bk, 0, none⟩ (.int .i64 W)) (.slice (some ⟨bk, 0, none⟩) V V) (bkL n 0) := by rw [bkL_zero, ← HHW.out, ← HV.out]; exact HK7.out.set 0 HWI.out
   have hN8 := HN7.out.away hs8 (by simp)
   have hB8 : Below w2.heap.size w2 (W7.setCell ⟨bk, 0, none⟩ (.int .i64 W)) := below_set HB7.out HLT.out.2
   generalize W7.setCell ⟨bk, 0, none⟩ (.int .i64 W) = W8 at hG8 hO8 hF8 hK8 hN8 hB8 ⊢
   have HG8 := Lib.hid hG8
   have HO8 := Lib.hid hO8
   have HF8 := Lib.hid hF8
   have HK8 := Lib.hid hK8
   have HN8 := Lib.hid hN8
   have HB8 := Lib.hid hB8
   have hVB := HB2.out _ hB8
   obtain ⟨bd', y0, e0, hvb, hv0, hvc, vi1, vi2⟩ := hVB.at_ (k := 0) (by rw [HLB.out]; omega)
   injection e0 with e0
   subst e0
   have hvc : W8.cell? bd = some (.int .i64 y0) := hvc
   have hy0 : v.getD 0 0 = y0 := by rw [List.getD_eq_getElem?_getD, hv0]; rfl
   have HY0 := Lib.hid hy0
   have HYI : Hid (I64 y0) := Lib.hid ⟨vi1, vi2⟩
   have HVC := Lib.hid hvc
   have HVB := Lib.hid hvb
   have HFI : Hid ((fwL n n)[0]? = some W) := Lib.hid (by rw [HHW.out]; exact fwL_in (by omega) (by omega))
   have y7 : (0 : Int) < (V : Int) := by have := HV.out; omega
   clear hs8 hG8 hO8 hF8 hK8 hN8 hB8 hVB hv0 hvc hvb vi1 vi2 hy0 HG7 HO7 HF7 HK7 HN7 HB7 ct cb0 cf0
   refine wp_region_grow8 (fun x => Nat.blt x 10) (fun _ => false) (fun wx => Below W8.heap.size W8 wx) (fun a b => Below a.heap.size a b) (lqF W8.heap.size [.slice (some ⟨f, 0, none⟩) V V, .pointer (some ⟨f, 0, none⟩), .int .i64 W, .slice (some bd) V cb, .pointer (some bd), .int .i64 y0, .agg #[.int .i64 W, .int .i64 y0]] [(W, y0)]) (by kernel_rfl) (by kernel_rfl) (Below.refl _ _).drew (fun a b h1 h2 => ⟨below_then h1 h2, fun i _ v => lqF_keep h2 i v⟩) (fun _ _ => Below.refl _ _) ?_ (fun _ _ _ _ h => by cases h) ?_
   ·refine ⟨?_, ?_, ?_, ?_, ?_, ?_, ?_, ?_, ?_, ?_, trivial⟩
    all_goals
     intro vs w5 hp hF
     have c2' : w5.cell? ⟨f, 0, none⟩ = some (.int .i64 W) := (HF8.out.grow hp).cell HFI.out
     have c3' : w5.cell? bd = some (.int .i64 y0) := (hp.cell HVB.out).trans HVC.out
     have HP5 := Lib.hid hp
     clear hp
     simp [depsB, Region.binds, lqF] at hF
     simp [stL, depsB, Region.binds, Act.put, hF]
    all_goals try (go_wp2_with fail; exact ⟨rfl, Below.refl _ _⟩)
    ·go_wp2_with fail
     exact ⟨⟨_, rfl, tm_lit HWI.out HYI.out HP5.out.size⟩, Below.alloc (Below.refl _ _) (Nat.le_refl _) _⟩
    ·obtain ⟨p6, e16, t16⟩ := hF
     simp only [e16]
     go_wp2_with fail
     exact ⟨⟨p6, rfl, t16⟩, Below.refl _ _⟩
    ·go_wp2_with fail
     exact ⟨⟨_, rfl, HP5.out.size, heap_new _ _⟩, Below.alloc (Below.refl _ _) (Nat.le_refl _) _⟩
   intro vs w5 hp hF
   obtain ⟨lt, e8, hot⟩ : ∃ p, vs 8 = .agg #[.slice (some ⟨p, 0, none⟩) 1 1] ∧ OwnTm W8.heap.size w5 (.slice (some ⟨p, 0, none⟩) 1 1) [(W, y0)] := hF 8 (by decide) rfl
   obtain ⟨q, e9, hqb, hqh⟩ : ∃ q, vs 9 = .pointer (some ⟨q, 0, none⟩) ∧ W8.heap.size ≤ q ∧ w5.heap[q]? = some (.cells #[.slice none 0 0] 36 (0, 0)) := hF 9 (by decide) rfl
   show wpList Tryd.prog _ _ [_] _ _
   simp [stL, Act.put, e8, e9]
   have hlq : lt ≠ q := tm_type hot hqh (by decide)
   have hbq : Box w5 q [.slice none 0 0] := box_heap hqh
   refine wp_st rfl 36 _ _ rfl q 0 [.slice (some ⟨lt, 0, none⟩) 1 1] rfl rfl size_nodeL rfl hbq (Nat.le_refl _) rfl ?_
   intro W9 hb9 hg9
   have HL9 : Hid (LatS w2.heap.size g h f bk q n V (d0, d1, d2, d3) (c0, c1, c2, c3) (3 * (n : Int) + 1) w2 W9 NA n nc lt 1 1 (fwL n n) (bkL n 0) (nxL n 0) ((List.range n).map (laA k Q n) ++ (List.range 0).map (laB k Q n)) (laC v n 0)) := by
    have lg := HG8.out.1
    have lh := HO8.out.block.2
    have lf := HF8.out.block.2
    have lb := HK8.out.block.2
    have hlt := hot.1.lt lt rfl
    have h8 := HB8.out.size
    have hne := HHG.out
    have hne2 := HLT.out
    have hgh := HNE.out
    rw [laC_zero, HY0.out, ← HHW.out, nxL_zero]
    refine Lib.hid ⟨(HG8.out.keep hp).grown hg9 (fun e => by injection e with e; omega), hb9, own_far (HO8.out.grow hp) hg9 (by omega), own_far (HK8.out.grow hp) hg9 (by omega), own_far (HF8.out.grow hp) hg9 (by omega), ?_, (hot.base h8).apart hg9 (fun e => hlq (by injection e)), ?_, ⟨HGB.out, by omega⟩, grown_to (below_then HB8.out hp) hg9 (by omega), by simp, rfl⟩
    ·rw [show (List.range 0).map (laB k Q n) = [] from rfl, List.append_nil]
     refine ((((HN8.out.more (y := q) hqb).more (y := lt) hlt.1).grow hp).away hg9 (by simp)).sub fun y hy => ?_
     simp only [List.mem_cons, List.not_mem_nil, or_false] at hy ⊢
     rcases hy with rfl | rfl | rfl | rfl | rfl | rfl <;> simp
    ·simp only [List.nodup_cons, List.mem_cons, List.not_mem_nil, or_false, not_or, List.nodup_nil, and_true, not_false_eq_true]
     refine ⟨⟨?_, ?_, ?_, ?_, hlq⟩, ⟨?_, ?_, ?_, ?_⟩, ⟨?_, ?_, ?_⟩, ⟨?_, ?_⟩, ?_⟩ <;> omega
   clear hF e8 e9 hqb hqh hlq hbq hb9 hg9 hot hp HG8 HO8 HF8 HK8 HN8 HB8 HVC HVB HFI HYI HY0 HHW HWI HLT
   go_wp2_with fail
   clear HNE HHB HGB HHG
   go_loopw [18] (fun i wr => ∃ (ii p N2 : Nat) (NA : Option Addr) (nc lt lc : Nat), i = .int .i64 ii ∧ Hid (ii = p + 1 ∧ p ≤ n ∧ N2 = n + p) ∧ Hid (LatS w2.heap.size g h f bk q n V (d0, d1, d2, d3) (c0, c1, c2, c3) (3 * (n : Int) + 1) w2 wr NA N2 nc lt ii lc (fwL n n) (bkL n p) (nxL n p) ((List.range n).map (laA k Q n) ++ (List.range p).map (laB k Q n)) (laC v n p))) (fun i _ => n + 1 - (intOf i).toNat)
   case atStart => exact ⟨1, 0, n, NA, nc, lt, 1, rfl, Lib.hid ⟨rfl, Nat.zero_le _, rfl⟩, HL9⟩
   case round =>
    clear HL9
    obtain ⟨ii, p, N2, NA, nc, lt, lc, rfl, HIP, HL⟩ := hrel
    have hip := HIP.out
    by_cases h1 : ii ≤ n
    ·have x1 : (ii : Int) ≤ (n : Int) := by omega
     have x1d : decide ((ii : Int) ≤ (n : Int)) = true := decide_eq_true x1
     obtain ⟨Y, hY⟩ : ∃ Y : Int, Y = 2 * (n : Int) + (ii : Int) := ⟨_, rfl⟩
     have hYI : I64 Y := ⟨by omega, by omega⟩
     have HYI := Lib.hid hYI
     have HY := Lib.hid hY
     have e4 : IntKind.i64.wrap (2 * (n : Int)) = 2 * (n : Int) := IntWalk.i64_in _ (by omega)
     have e5 : IntKind.i64.wrap (2 * (n : Int) + (ii : Int)) = Y := (IntWalk.i64_in _ (by omega)).trans (by omega)
     have y3 : IntKind.i64.wrap ((ii : Int) - 1) = (p : Int) := (IntWalk.i64_in _ (by omega)).trans (by omega)
     have y4 : (0 : Int) ≤ (p : Int) := by omega
     have y5 : (p : Int) < (V : Int) := by have := HV.out; omega
     have y6 : (0 : Int) ≤ (ii : Int) := by omega
     have y7 : (ii : Int) < (V : Int) := by have := HV.out; omega
     have y8 : (p : Int) < (n : Int) := by omega
     have ct := HL.out.ob.cell (bkL_get (p := p) (show ii ≤ n by omega))
     have cf := HL.out.ob.free ii
     have hA1 := add_cellsO bk 0 ii
     rw [Nat.zero_add] at hA1
     have HBS : Hid ((bkL n p).set ii Y = bkL n (p + 1)) := Lib.hid (by rw [bkL_succ, hY, hip.1])
     clear hY hYI h1 hip
     go_upto_region 22 with fail
     have hip := HIP.out
     have hL1 := HL.out.setB ii HYI.out
     rw [HBS.out] at hL1
     generalize wr.setCell ⟨bk, ii, none⟩ (.int .i64 Y) = v1 at hL1 ⊢
     have HL1 := Lib.hid hL1
     have hKA := HA2.out _ hL1.be
     obtain ⟨kd, xk, rfl, hkb, hkx, hkc, ki1, ki2⟩ := hKA.at_ (k := p) (by rw [HLA.out]; omega)
     obtain ⟨W, hW⟩ : ∃ W, W = fwI n p := ⟨_, rfl⟩
     have HFI : Hid ((fwL n n)[p]? = some W) := Lib.hid (by rw [hW]; exact fwL_in (by omega) (by omega))
     have hWI : I64 W := by rw [hW]; exact fwI_64 (by omega) hn
     have hlB : laB k Q n p = [(W, xk), ((ii : Int), Q)] := by
      unfold laB
      rw [← hW, List.getD_eq_getElem?_getD, hkx]
      have : (p : Int) + 1 = (ii : Int) := by omega
      rw [this]; rfl
     have HLL := Lib.hid hlB
     have HTI : Hid (I64 W ∧ I64 (ii : Int) ∧ I64 xk) := Lib.hid ⟨hWI, ⟨by omega, by omega⟩, ⟨ki1, ki2⟩⟩
     have HKC := Lib.hid hkc
     have HKB := Lib.hid hkb
     have HLO := Lib.hid hL1.low
     have HN1' := Lib.hid (fun q e => ((hL1.nd.lt q e).1.2 : q < v1.heap.size))
     clear hL1 ct cf HL hKA hkx ki1 ki2 hWI hlB hW hkb hkc e4 e5 hip HBS
     refine wp_region_grow8 (fun x => Nat.blt x 19) (fun _ => false) (fun wx => Below v1.heap.size v1 wx) (fun a b => Below a.heap.size a b) (lnG v1.heap.size [.pointer (some ⟨g, 9, none⟩), .slice NA N2 nc, .slice (some ⟨f, 0, none⟩) V V, .int .i64 ii, .int .i64 p, .pointer (some ⟨f, p, none⟩), .int .i64 W, .slice (some kd) n ca, .int .i64 ii, .int .i64 p, .pointer (some (kd.add p)), .int .i64 xk, .agg #[.int .i64 W, .int .i64 xk], .int .i64 ii, .int .i64 Q, .agg #[.int .i64 ii, .int .i64 Q]] [(W, xk), ((ii : Int), Q)]) (by kernel_rfl) (by kernel_rfl) (Below.refl _ _).drew (fun a b h1 h2 => ⟨below_then h1 h2, fun i _ v => lnG_keep h2 i v⟩) (fun _ _ => Below.refl _ _) ?_ (fun _ _ _ _ h => by cases h) ?_
     ·refine ⟨?_, ?_, ?_, ?_, ?_, ?_, ?_, ?_, ?_, ?_, ?_, ?_, ?_, ?_, ?_, ?_, ?_, ?_, ?_, trivial⟩
      all_goals
       intro vs w5 hp hF
       have c1' : w5.cell? ⟨g, 9, none⟩ = some (.slice NA N2 nc) := (HL1.out.bg.keep hp).2.1 9
       have c2' : w5.cell? ⟨f, p, none⟩ = some (.int .i64 W) := (HL1.out.of.grow hp).cell HFI.out
       have c3' : w5.cell? (kd.add p) = some (.int .i64 xk) := (hp.cell (by rw [add_blk]; exact HKB.out)).trans HKC.out
       have hA1 := add_cellsO f 0 p
       rw [Nat.zero_add] at hA1
       have HP5 := Lib.hid hp
       clear hp
       simp [depsB, Region.binds, lnG] at hF
       simp [stL, depsB, Region.binds, Act.put, hF]
      all_goals try (go_wp2_with fail; exact ⟨rfl, Below.refl _ _⟩)
      ·go_wp2_with fail
       exact ⟨⟨_, rfl, terms_two HTI.out.1 HTI.out.2.2 HTI.out.2.1 HQI.out, fun a e => by injection e with e; subst e; exact HP5.out.size⟩, Below.alloc (Below.refl _ _) (Nat.le_refl _) _⟩
      ·obtain ⟨p6, e16, t16⟩ := hF
       simp only [e16]
       go_wp2_with fail
       exact ⟨⟨p6, rfl, t16⟩, Below.refl _ _⟩
      ·obtain ⟨p6, e17, t17⟩ := hF
       simp only [e17]
       go_wp2_with fail
       have hb6 : Below w5.heap.size w5 (w5.alloc (.cells #[.slice (some ⟨p6, 0, none⟩) 2 2] 36)) := Below.alloc (Below.refl _ _) (Nat.le_refl _) _
       exact ⟨⟨_, p6, rfl, Box.new rfl, t17.grow hb6⟩, hb6⟩
     intro vs w5 hp hF
     have e1 : vs 1 = .slice NA N2 nc := hF 1 (by decide) rfl
     obtain ⟨r, p6, e18, hbr, htp⟩ : ∃ r p6, vs 18 = .slice (some ⟨r, 0, none⟩) 1 1 ∧ Box w5 r [.slice (some ⟨p6, 0, none⟩) 2 2] ∧ TermsF v1.heap.size w5 (some ⟨p6, 0, none⟩) [(W, xk), ((ii : Int), Q)] := hF 18 (by decide) rfl
     show wpList Tryd.prog _ _ [_, _, _] _ _
     simp [stL, Act.put, e1, e18]
     have hbv := HL1.out.be.size
     have hL5 := HL1.out.grow hbv hp
     have hps := hp.size
     have HL5 := Lib.hid hL5
     have hln := hL5.ln
     clear hF e1 e18 hp HL1 hL5
     refine app_ndA w5 rfl _ _ rfl [lt, g, h, f, bk, q] w2.heap.size HL5.out.nd rfl rfl (hbr.2.1 0) (l := [(W, xk), ((ii : Int), Q)]) rfl htp.1 (fun _ a e => ?_) (by rw [hln]; have := HIP.out; omega) (by omega) (fun x hx => Nat.lt_of_lt_of_le (HLO.out x hx) hps) ?_
     ·have hb1 := htp.2 a e
      exact ⟨⟨fun e2 => by have := (HN1'.out _ e2.symm); omega, by omega⟩, fun hx => by have := HLO.out _ hx; omega⟩
     intro v6 w6 ho6 hg6
     obtain ⟨N6, c6, e6⟩ := ho6.form
     rw [List.length_append, hln] at e6
     have e6 : v6 = .slice N6 (N2 + 1) c6 := e6
     subst e6
     have hbb : w2.heap.size ≤ w5.heap.size := by omega
     have HL6 := Lib.hid (HL5.out.node ho6 hg6 hbb)
     have hB6 := HL5.out.bg.grown hg6 (fun e => (HL5.out.nd.lt g e.symm).2 (by simp))
     have t9 : w6.cell? ⟨g, 9, none⟩ = some (.slice NA N2 nc) := hB6.2.1 9
     have tf9 := hB6.2.2
     clear hbv hps hln hbr htp hg6 ho6 hbb hB6 HL5 HN1' HLO HTI HFI HKC HKB
     go_upto_region 23 with fail
     clear t9 tf9
     generalize w6.setCell ⟨g, 9, none⟩ (.slice N6 (N2 + 1) c6) = v2 at HL6 ⊢
     clear HYI
     have hVB := HB2.out _ HL6.out.be
     obtain ⟨bd', yv, e0, hvb, hv0, hvc, vi1, vi2⟩ := hVB.at_ (k := ii) (by rw [HLB.out]; have := HIP.out; omega)
     injection e0 with e0
     subst e0
     have HYV : Hid (v.getD ii 0 = yv) := Lib.hid (by rw [List.getD_eq_getElem?_getD, hv0]; rfl)
     have HYI : Hid (I64 Y ∧ I64 yv) := Lib.hid ⟨by rw [HY.out]; have := HIP.out; exact ⟨by omega, by omega⟩, vi1, vi2⟩
     have HVC := Lib.hid hvc
     have HVB := Lib.hid hvb
     have HBI : Hid ((bkL n (p + 1))[ii]? = some Y) := Lib.hid (by have := HIP.out; rw [bkL_get (by omega), if_neg (by omega), if_pos (by omega), HY.out])
     have HLO := Lib.hid HL6.out.low
     clear hVB hv0 hvc hvb vi1 vi2
     refine wp_region_grow8 (fun x => Nat.blt x 12) (fun _ => false) (fun wx => Below v2.heap.size v2 wx) (fun a b => Below a.heap.size a b) (ltF v2.heap.size [.pointer (some ⟨q, 0, none⟩), .slice (some ⟨lt, 0, none⟩) ii lc, .slice (some ⟨bk, 0, none⟩) V V, .int .i64 ii, .pointer (some ⟨bk, ii, none⟩), .int .i64 Y, .slice (some bd) V cb, .int .i64 ii, .pointer (some (bd.add ii)), .int .i64 yv, .agg #[.int .i64 Y, .int .i64 yv]] [(Y, yv)]) (by kernel_rfl) (by kernel_rfl) (Below.refl _ _).drew (fun a b h1 h2 => ⟨below_then h1 h2, fun i _ v => ltF_keep h2 i v⟩) (fun _ _ => Below.refl _ _) ?_ (fun _ _ _ _ h => by cases h) ?_
     ·refine ⟨?_, ?_, ?_, ?_, ?_, ?_, ?_, ?_, ?_, ?_, ?_, ?_, trivial⟩
      all_goals
       intro vs w7 hp hF
       have c1' : w7.cell? ⟨q, 0, none⟩ = some (.slice (some ⟨lt, 0, none⟩) ii lc) := (HL6.out.bq.keep hp).2.1 0
       have c2' : w7.cell? ⟨bk, ii, none⟩ = some (.int .i64 Y) := (HL6.out.ob.grow hp).cell HBI.out
       have c3' : w7.cell? (bd.add ii) = some (.int .i64 yv) := (hp.cell (by rw [add_blk]; exact HVB.out)).trans HVC.out
       have hA1 := add_cellsO bk 0 ii
       rw [Nat.zero_add] at hA1
       have HP5 := Lib.hid hp
       clear hp
       simp [depsB, Region.binds, ltF] at hF
       simp [stL, depsB, Region.binds, Act.put, hF]
      all_goals try (go_wp2_with fail; exact ⟨rfl, Below.refl _ _⟩)
      ·go_wp2_with fail
       exact ⟨⟨_, rfl, terms_one HYI.out.1 HYI.out.2, fun a e => by injection e with e; subst e; exact HP5.out.size⟩, Below.alloc (Below.refl _ _) (Nat.le_refl _) _⟩
     intro vs w7 hp hF
     have e1 : vs 1 = .slice (some ⟨lt, 0, none⟩) ii lc := hF 1 (by decide) rfl
     obtain ⟨p6, e11, htp⟩ : ∃ p6, vs 11 = .slice (some ⟨p6, 0, none⟩) 1 1 ∧ TermsF v2.heap.size w7 (some ⟨p6, 0, none⟩) [(Y, yv)] := hF 11 (by decide) rfl
     show wpList Tryd.prog _ _ [_, _, _] _ _
     simp [stL, Act.put, e1, e11]
     have hbv := HL6.out.be.size
     have hL7 := HL6.out.grow hbv hp
     have hps := hp.size
     have HL7 := Lib.hid hL7
     clear hF e1 e11 hp HL6 hL7
     refine app_terms w7 rfl _ _ rfl w2.heap.size rfl rfl HL7.out.ot htp.1 rfl (by rw [HL7.out.le]; have := HIP.out; omega) (by omega) ?_
     intro v8 w8 ho8 hg8 hv8
     have ho8l : (laC v n p ++ [(Y, yv)]).length = ii + 1 := by rw [List.length_append, HL7.out.le]; rfl
     obtain ⟨lt2, c8, e8⟩ := ho8.some (by rw [ho8l]; exact Nat.succ_pos _)
     rw [ho8l] at e8
     subst e8
     have hv9 : lt2 = lt ∨ lt2 = w7.heap.size := by
      rcases hv8 with e | e
      ·exact .inl (by injection e)
      ·exact .inr (by injection e)
     have HL8 := Lib.hid (HL7.out.term ho8 hg8 hv9 (by omega))
     have hB8 := HL7.out.bq.grown hg8 (fun e => HL7.out.ne.1.2.2.2.2 (by injection e with e; exact e.symm))
     have t9 : w8.cell? ⟨q, 0, none⟩ = some (.slice (some ⟨lt, 0, none⟩) ii lc) := hB8.2.1 0
     have tf9 := hB8.2.2
     have hC := HIP.out.1
     have HCC : Hid (laC v n p ++ [(Y, yv)] = laC v n (p + 1)) := Lib.hid (by
      rw [laC_succ, HY.out, ← HYV.out, hC]
      have : 2 * (n : Int) + ((p + 1 : Nat) : Int) = 2 * (n : Int) + (p : Int) + 1 := by omega
      rw [this])
     clear hbv hps htp hg8 ho8 hv8 hv9 hB8 HL7 HLO HVC HVB HYV HYI ho8l hC
     go_upto_region 24 with fail
     clear t9 tf9
     generalize w8.setCell ⟨q, 0, none⟩ (.slice (some ⟨lt2, 0, none⟩) (ii + 1) c8) = v3 at HL8 ⊢
     obtain ⟨Z, hZ⟩ : ∃ Z : Int, Z = (if p = 0 then fwI n 0 else 2 * (n : Int) + (p : Int)) := ⟨_, rfl⟩
     have HZX : Hid ((nxL n p).set p Z = nxL n (p + 1)) := Lib.hid (by rw [nxL_succ (by have := HIP.out; omega), hZ])
     have HZI : Hid (I64 Z) := Lib.hid (by
      rw [hZ]
      have := HIP.out
      split
      ·exact fwI_64 (Nat.zero_le _) hn
      ·exact ⟨by omega, by omega⟩)
     have HZB : Hid ((bkL n (p + 1))[p]? = some Z) := Lib.hid (by
      have := HIP.out
      rw [bkL_get (by omega), hZ]
      by_cases e0 : p = 0
      ·rw [if_pos e0, if_pos e0]
      ·rw [if_neg e0, if_neg e0, if_pos (by omega)])
     clear hZ
     refine wp_region_grow8 (fun x => Nat.blt x 10) (fun _ => false) (fun wx => Below v3.heap.size v3 wx) (fun a b => Below a.heap.size a b) (vlF [.pointer (some ⟨g, 10, none⟩), .slice (some ⟨h, 0, none⟩) n n, .int .i64 ii, .int .i64 p, .slice (some ⟨bk, 0, none⟩) V V, .int .i64 ii, .int .i64 p, .pointer (some ⟨bk, p, none⟩), .int .i64 Z, .pointer (some ⟨h, p, none⟩)]) (by kernel_rfl) (by kernel_rfl) (Below.refl _ _).drew (fun a b h1 h2 => ⟨below_then h1 h2, fun i _ v h => h⟩) (fun _ _ => Below.refl _ _) ?_ (fun _ _ _ _ h => by cases h) ?_
     ·refine ⟨?_, ?_, ?_, ?_, ?_, ?_, ?_, ?_, ?_, ?_, trivial⟩
      all_goals
       intro vs w7 hp hF
       have c1' : w7.cell? ⟨g, 10, none⟩ = some (.slice (some ⟨h, 0, none⟩) n n) := (HL8.out.bg.keep hp).2.1 10
       have c2' : w7.cell? ⟨bk, p, none⟩ = some (.int .i64 Z) := (HL8.out.ob.grow hp).cell HZB.out
       have hA1 := add_cellsO bk 0 p
       rw [Nat.zero_add] at hA1
       have hA2 := add_cellsO h 0 p
       rw [Nat.zero_add] at hA2
       have HP5 := Lib.hid hp
       clear hp
       simp [depsB, Region.binds, vlF] at hF
       simp [stL, depsB, Region.binds, Act.put, hF]
      all_goals (go_wp2_with fail; exact ⟨rfl, Below.refl _ _⟩)
     intro vs w7 hp hF
     have e8 : vs 8 = .int .i64 Z := hF 8 (by decide) rfl
     have e9 : vs 9 = .pointer (some ⟨h, p, none⟩) := hF 9 (by decide) rfl
     show wpList Tryd.prog _ _ [_] _ _
     simp [stL, Act.put, e8, e9]
     have hbv := HL8.out.be.size
     have HL9 := Lib.hid (HL8.out.grow hbv hp)
     clear hF e8 e9 hp HL8 hbv
     have ct := HL9.out.ox.cell (nxL_get (n := n) (p := p) (j := p) (by have := HIP.out; omega))
     have cf := HL9.out.ox.free p
     have xk1 : IntKind.i64.wrap ((ii : Int) + 1) = (ii : Int) + 1 := IntWalk.i64_in _ (by omega)
     clear HZB
     go_wp2_with fail
     go_roundw
     case rel =>
      have hL := HL9.out.setX p HZI.out
      rw [HZX.out, HCC.out, List.append_assoc, ← HLL.out, ← range_suc] at hL
      exact ⟨ii + 1, p + 1, N2 + 1, N6, c6, lt2, c8, by go_num, Lib.hid (by have := HIP.out; omega), Lib.hid hL⟩
     case measure => simp [intOf]; omega
    ·have x1 : ¬ (ii : Int) ≤ (n : Int) := by omega
     have x1d : decide ((ii : Int) ≤ (n : Int)) = false := decide_eq_false x1
     obtain rfl : n = p := by omega
     have HRX := Lib.hid (D2.out.keep HL.out.be)
     have c1' : wr.cell? ⟨g, 9, none⟩ = some (.slice NA N2 nc) := HL.out.bg.2.1 9
     have c2' : wr.cell? ⟨q, 0, none⟩ = some (.slice (some ⟨lt, 0, none⟩) ii lc) := HL.out.bq.2.1 0
     have hbv := HL.out.be.size
     have hal : Below wr.heap.size wr (wr.alloc (.cells #[.slice (some ⟨lt, 0, none⟩) ii lc] 36)) := Below.alloc (Below.refl _ _) (Nat.le_refl _) _
     have HLA1 := Lib.hid (HL.out.grow hbv hal)
     have hsub : ∀ y ∈ [g, h, f, bk, q], y ∈ [lt, g, h, f, bk, q] := fun y hy => List.mem_cons_of_mem _ hy
     have HNA := Lib.hid (HLA1.out.nd.sub hsub)
     have HTA := Lib.hid (HLA1.out.ot.form)
     have hlow := HLA1.out.low
     have HLW := Lib.hid hlow
     have HBX : Hid (Box (wr.alloc (.cells #[.slice (some ⟨lt, 0, none⟩) ii lc] 36)) wr.heap.size [.slice (some ⟨lt, 0, none⟩) ii lc]) := Lib.hid (Box.new rfl)
     have HNEL : Hid (laC v n n ≠ [] → ∀ a, some (⟨lt, 0, none⟩ : Addr) = some a → (some a.block ≠ (Value.slice NA N2 nc).ownBlock ∧ w2.heap.size ≤ a.block) ∧ a.block ∉ [g, h, f, bk, q]) := Lib.hid fun _ a e => by
      injection e with e
      subst e
      have hne := HLA1.out.ne.1
      refine ⟨⟨fun e => (HLA1.out.nd.lt lt e.symm).2 (by simp), (HLA1.out.ot.1.lt lt rfl).1⟩, fun hx => ?_⟩
      simp only [List.mem_cons, List.not_mem_nil, or_false] at hx
      omega
     have HTM : Hid (TermsAt (wr.alloc (.cells #[.slice (some ⟨lt, 0, none⟩) ii lc] 36)) (some ⟨lt, 0, none⟩) (laC v n n)) := by
      obtain ⟨A', c', e, -, ht⟩ := HTA.out
      injection e with e
      subst e
      exact Lib.hid ht
     have HLN : Hid (((List.range n).map (laA k Q n) ++ (List.range n).map (laB k Q n)).length = N2 ∧ N2 = n + n ∧ (laC v n n).length = ii) := Lib.hid ⟨HL.out.ln, hip.2.2, HL.out.le⟩
     have hbs : w2.heap.size ≤ (wr.alloc (.cells #[.slice (some ⟨lt, 0, none⟩) ii lc] 36)).heap.size := by have := hal.size; omega
     have HBS := Lib.hid hbs
     clear hip h1 hbv hal hlow hbs HTA hsub
     go_upto_region 26 with (at_builtin; refine app_ndA (wr.alloc (.cells #[.slice (some ⟨lt, 0, none⟩) ii lc] 36)) rfl _ _ rfl [g, h, f, bk, q] w2.heap.size HNA.out rfl rfl (HBX.out.2.1 0) HLN.out.2.2 HTM.out HNEL.out (by rw [HLN.out.1, HLN.out.2.1]; omega) HBS.out (fun x hx => HLW.out x (List.mem_cons_of_mem _ hx)) ?_; intro v6 w6 ho6 hg6; have hB6 := HLA1.out.bg.grown hg6 (fun e => (HLA1.out.nd.lt g e.symm).2 (by simp)); have t9 : w6.cell? ⟨g, 9, none⟩ = some (.slice NA N2 nc) := hB6.2.1 9; have tf9 := hB6.2.2; obtain ⟨N6, c6, e6⟩ := ho6.form; rw [List.length_append, HLN.out.1] at e6; have e6 : v6 = .slice N6 (N2 + 1) c6 := e6; subst e6)
     have hsg := grown_set (k := 9) (u := .slice N6 (N2 + 1) c6) (grown_refl w6 (some g))
     have HG7 := Lib.hid (hB6.set (k := 9) (u := .slice N6 (N2 + 1) c6) (by show 9 < 12; omega))
     have HX7 := Lib.hid (own_far ⟨HLA1.out.ox.1.kept hg6 (.inr (fun e => (HLA1.out.nd.lt h e.symm).2 (by simp))), HLA1.out.ox.2⟩ hsg (fun e => HLA1.out.ne.2.1.1 e.symm) : Own w2.heap.size (w6.setCell ⟨g, 9, none⟩ (.slice N6 (N2 + 1) c6)) (.slice (some ⟨h, 0, none⟩) n n) (nxL n n))
     have HN7 := Lib.hid (ho6.away hsg (by simp))
     have HB7 : Hid (Below w2.heap.size w2 (w6.setCell ⟨g, 9, none⟩ (.slice N6 (N2 + 1) c6))) := Lib.hid (below_set (HLA1.out.be.grown hg6 HBS.out (fun y e => (HLA1.out.nd.lt y e).1.1)) HLA1.out.ge.1)
     have HRX7 := Lib.hid (D2.out.keep HB7.out)
     have HGN := Lib.hid (And.intro HLA1.out.ge.1 HLA1.out.ox.block.1)
     clear hsg hB6 t9 tf9 hg6 ho6 HL HLA1 HNA HLW HBX HNEL HTM HRX c1' c2'
     generalize w6.setCell ⟨g, 9, none⟩ (.slice N6 (N2 + 1) c6) = v7 at HG7 HX7 HN7 HB7 HRX7 ⊢
     go_wp2_with (first
      | ((with_reducible show wpList _ _ _ (Oper.mk _ (.load 27 _) _ _ _ _ :: _) _ _); refine ld_netB1 HG7.out rfl rfl _ rfl rfl ?_)
      | ((with_reducible show wpList _ _ _ (Oper.mk none (.store 27 _ _) _ _ _ _ :: _) _ _); refine st_netL HRX7.out rfl (L := netL (d0, d1, d2, d3) (c0, c1, c2, c3) (n : Int) (.slice N6 (N2 + 1) c6) (.slice (some ⟨h, 0, none⟩) n n) (3 * (n : Int) + 1)) rfl rfl rfl _ _ rfl rfl rfl ?_; intro w9 hb9 hg9))
     obtain ⟨dsc, hd1, hd2⟩ := row_net
     refine bodyPost_ret (resCT rfl _ _ w9 (g := w.heap.size + 2) (v := .agg (netL (d0, d1, d2, d3) (c0, c1, c2, c3) (n : Int) (.slice N6 (N2 + 1) c6) (.slice (some ⟨h, 0, none⟩) n n) (3 * (n : Int) + 1)).toArray) rfl (res_box _ hb9 dsc hd1 hd2 size_net)) rfl ?_
     have hlt := HW2L.out
     have hlx : (laNx n).length = n := by unfold laNx; simp
     have hO9 : Own w2.heap.size w9 (.slice (some ⟨h, 0, none⟩) n n) (laNx n) := own_away (nxL_all n ▸ HX7.out) hg9 (by omega)
     have hN9 : NodesF w.heap.size w9 N6 (laNs k v Q n) := (HN7.out.past hg9 (by omega)).intoF.base HW2.out.size
     have hll : (laNs k v Q n).length = N2 + 1 := by unfold laNs; rw [List.length_append, HLN.out.1]; rfl
     have hle : ∀ ts ∈ laNs k v Q n, ts.length ≤ 9 := fun ts hts => by
      unfold laNs at hts
      rcases List.mem_append.1 hts with hts | hts
      ·rcases List.mem_append.1 hts with hts | hts
       ·obtain ⟨k, -, rfl⟩ := List.mem_map.1 hts
        show 2 ≤ 9; decide
       ·obtain ⟨k, -, rfl⟩ := List.mem_map.1 hts
        show 2 ≤ 9; decide
      ·rw [List.mem_singleton.1 hts, laC_len]; omega
     have hN2 := HLN.out.2.1
     rw [HQ.out]
     refine ⟨N6, c6, some ⟨h, 0, none⟩, n, ?_, ⟨hN9, (IntsF.own hO9).base HW2.out.size, by show (laNs k v Q n).length ≤ _; omega, by show (laNx n).length ≤ _; omega, ?_, ⟨by show _ ≤ (n : Int); omega, by show (n : Int) ≤ _; omega⟩⟩, grown_to (below_then HW2.out HB7.out) hg9 (by omega)⟩
     ·unfold NetD.lst
      simp only [hll, hlx]
      rfl
     ·exact fun ts hts => by have := hle ts hts; omega
end Go.Proofs.YtdiflpbioohddaaDoor
