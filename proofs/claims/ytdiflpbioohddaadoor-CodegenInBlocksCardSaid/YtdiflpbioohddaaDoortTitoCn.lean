/- Several texts in one: Ti Y6 Dd Cm Cn. -/
import Derived.Test.YtdiflpbioohddaaDoortS10toTg
import Derived.Test.YtdiflpbioohddaaDoortU2toCr
import Derived.Test.YtdiflpbioohddaaDoortJ
import Derived.Test.YtdiflpbioohddaaDoortH4
import Derived.Test.YtdiflpbioohddaaDoortG9toVc
import Derived.Test.YtdiflpbioohddaaDoortE19toOn
import Derived.Deep.Slices
import Derived.Lib.SmallJoins
import Derived.Laws.Tables
import Derived.Laws.EntriesVeiled
import Derived.Test.YtdiflpbioohddaaDoortE13toE16
import Derived.Test.YtdiflpbioohddaaDoortY3toS26
import Derived.Test.YtdiflpbioohddaaDoortS31toH1
import Derived.Test.YtdiflpbioohddaaDoortS22toS28
import Derived.Test.YtdiflpbioohddaaDoortH3
import Derived.Test.YtdiflpbioohddaaDoortU5toS3
import Derived.Test.YtdiflpbioohddaaDoortS15toS17
import Derived.Deep.DeepCutAuto
import Derived.Deep.CutBlock
import Derived.Test.YtdiflpbioohddaaDoortCctoT8
set_option linter.unusedVariables false
set_option linter.unusedSimpArgs false
section
namespace Go.Proofs.YtdiflpbioohddaaDoor
open Go.RowKit
end Go.Proofs.YtdiflpbioohddaaDoor
end
section
namespace Go.Proofs.YtdiflpbioohddaaDoor
open Go.RowKit
theorem fit_words {n : NetD} {l : List Int} {k : Nat} (h : n.ok = true) : n.fit (wordsF n.d0 n.d1 n.d2 n.d3 l k) = true := by
 obtain ⟨p1, -⟩ := netB_parts h
 unfold NetD.fit wordsF
 rw [List.all_map, List.all_eq_true]
 intro i _
 exact word_fitsR p1 _
end Go.Proofs.YtdiflpbioohddaaDoor
end
section
namespace Go.Proofs.YtdiflpbioohddaaDoor
open Go.RowKit
theorem entry3b (w : World) (L M K : List Value) {t u v : TypeId} : ∀ W, W = (((w.alloc (.cells L.toArray t)).alloc (.cells M.toArray u)).alloc (.cells K.toArray v)) → (Box W w.heap.size L ∧ Box W (w.heap.size + 1) M) ∧ Box W (w.heap.size + 2) K ∧ Below w.heap.size w W := fun W hW => by
 subst hW
 have h1 : Box (w.alloc (.cells L.toArray t)) w.heap.size L := Box.new rfl
 have h2 : Box ((w.alloc (.cells L.toArray t)).alloc (.cells M.toArray u)) (w.heap.size + 1) M := Box.new (by simp)
 have h3 : Box (((w.alloc (.cells L.toArray t)).alloc (.cells M.toArray u)).alloc (.cells K.toArray v)) (w.heap.size + 2) K := Box.new (by simp)
 exact ⟨⟨(h1.alloc _).alloc _, h2.alloc _⟩, h3, (((Below.refl w.heap.size w).alloc (Nat.le_refl _) _).alloc (by simp) _).alloc (by simp; omega) _⟩
end Go.Proofs.YtdiflpbioohddaaDoor
end
section
namespace Go.Proofs.YtdiflpbioohddaaDoor
open Go.RowKit
theorem wrap_nn {x : Int} (h : 0 ≤ x ∧ x ≤ 1000000) : wrap64 x = x := wrap64_same (by omega)
theorem wrap_23 {x : Int} (h : -16777216 ≤ x ∧ x ≤ 16777216) : wrap64 x = x := wrap64_same (by omega)
theorem row_mem {l : List Int} {sign fr : Int} {k : Nat} {t : Int × Int} (hk : k = l.length) (hs : sign = 1 ∨ sign = -1) (hf : 0 ≤ fr ∧ fr ≤ 1000) (hl : l.length ≤ 1000) (hb : ∀ v ∈ l, -8388608 ≤ v ∧ v ≤ 8388608) (h : t ∈ rowF l sign fr k) : (fr ≤ t.1 ∧ t.1 < fr + l.length) ∧ ∃ v ∈ l, t.2 = sign * v := by
 subst hk
 unfold rowF at h
 obtain ⟨i, hi, rfl⟩ := List.mem_map.1 h
 have hi := List.mem_range.1 hi
 simp only [if_pos hi]
 have hv := hb l[i] (List.getElem_mem hi)
 rw [List.getElem?_eq_getElem hi, wrap_nn (by omega)]
 refine ⟨by omega, l[i], List.getElem_mem hi, ?_⟩
 show wrap64 (sign * l[i]) = sign * l[i]
 refine wrap_23 ?_
 rcases hs with rfl | rfl <;> omega
theorem dl_mem {L : List Int} {o k : Nat} {f s : Int} {m : Int} (hf : 1 ≤ f ∧ f + k ≤ m + 1) (hm : m ≤ 1000) (hs : 0 ≤ s ∧ s ≤ m) (hL : ∀ v ∈ L, 0 ≤ v ∧ v ≤ m) : ∀ v ∈ dlF L o f s k, 0 ≤ v ∧ v ≤ m := fun v hv => by
 unfold dlF at hv
 obtain ⟨i, hi, rfl⟩ := List.mem_map.1 hv
 have hi := List.mem_range.1 hi
 split
 ·split
  ·exact hs
  ·rename_i h1 h2
   have hc : ((i - o : Nat) : Int) = (i : Int) - o := by omega
   have e1 : wrap64 (f + ((i - o : Nat) : Int)) = f + ((i : Int) - o) := by rw [hc]; exact wrap_nn (by omega)
   rw [e1, wrap_nn (by omega)]
   omega
 ·rw [List.getElem?_eq_getElem hi]
  exact hL _ (List.getElem_mem hi)
theorem coef_23 {c0 c1 c2 c3 v : Int} (hc : okW c0 c1 c2 c3 = true) (h : fitsW c0 c1 c2 c3 v = true) : -8388608 ≤ v ∧ v ≤ 8388608 := coef_range hc (.inl h)
theorem one_ok {d0 d1 d2 d3 c0 c1 c2 c3 : Int} {a b : List Int} {I K : Nat} (hd : okW d0 d1 d2 d3 = true) (hc : okW c0 c1 c2 c3 = true) (ha : a.length = K) (hb : b.length = I + 1) (hn : I ≤ 48 ∧ K ≤ 8) (fb : ∀ v ∈ b, fitsW c0 c1 c2 c3 v = true) (fa : ∀ v ∈ a, fitsW c0 c1 c2 c3 v = true ∧ fitsW c0 c1 c2 c3 (-v) = true) :
  netB d0 d1 d2 d3 c0 c1 c2 c3 ((I : Int) + K) [rowF b 1 0 (I + 1) ++ rowF a (-1) ((I : Int) + 1) K] (dlF (dlF (List.replicate (I + K) 0) 0 1 0 I) I ((I : Int) + 1) ((I : Int) + K + 1) K) ((I : Int) + K + 1) = true ∧
  tinyN [rowF b 1 0 (I + 1) ++ rowF a (-1) ((I : Int) + 1) K] (dlF (dlF (List.replicate (I + K) 0) 0 1 0 I) I ((I : Int) + 1) ((I : Int) + K + 1) K) := by
 have hlen : (dlF (dlF (List.replicate (I + K) 0) 0 1 0 I) I ((I : Int) + 1) ((I : Int) + K + 1) K).length = I + K := by rw [dlF_length, dlF_length, List.length_replicate]
 have htl : (rowF b 1 0 (I + 1) ++ rowF a (-1) ((I : Int) + 1) K).length = I + 1 + K := by rw [List.length_append, rowF_length, rowF_length, ha, hb]
 have hterm : ∀ t ∈ rowF b 1 0 (I + 1) ++ rowF a (-1) ((I : Int) + 1) K, termB c0 c1 c2 c3 ((I : Int) + K) t = true := fun t ht => by
  unfold termB
  rcases List.mem_append.1 ht with h | h
  ·obtain ⟨h1, v, hv, h2⟩ := row_mem hb.symm (.inl rfl) (by omega) (by omega) (fun v hv => coef_23 hc (fb v hv)) h
   rw [h2, Int.one_mul, fb v hv, inB_iff.2 (by omega)]; rfl
  ·obtain ⟨h1, v, hv, h2⟩ := row_mem ha.symm (.inr rfl) (by omega) (by omega) (fun v hv => coef_23 hc (fa v hv).1) h
   have e : (-1 : Int) * v = -v := by omega
   rw [h2, e, (fa v hv).2, inB_iff.2 (by omega)]; rfl
 refine ⟨?_, ?_⟩
 ·unfold netB netHeadB
  have h1 : inB ((I : Int) + K) 0 64 = true := inB_iff.2 (by omega)
  have h2 : nodesB c0 c1 c2 c3 ((I : Int) + K) [rowF b 1 0 (I + 1) ++ rowF a (-1) ((I : Int) + 1) K] 1 = true := by
   unfold nodesB
   refine List.all_eq_true.2 fun i hi => ?_
   have hi := List.mem_range.1 hi
   obtain rfl : i = 0 := by omega
   show nodeB c0 c1 c2 c3 ((I : Int) + K + ((0 : Nat) : Int)) _ = true
   unfold nodeB
   rw [htl, decide_eq_true (by omega : I + 1 + K ≤ 64), Bool.true_and]
   refine List.all_eq_true.2 fun t ht => ?_
   have := hterm t ht
   rwa [show ((I : Int) + K + ((0 : Nat) : Int)) = (I : Int) + K by omega]
  have h3 : ((dlF (dlF (List.replicate (I + K) 0) 0 1 0 I) I ((I : Int) + 1) ((I : Int) + K + 1) K).all fun v => inB v 0 ((I : Int) + K + ((1 : Nat) : Int))) = true := by
   refine List.all_eq_true.2 fun v hv => inB_iff.2 ?_
   have := dl_mem (m := (I : Int) + K + 1) (by omega) (by omega) (by omega) (fun v hv => dl_mem (m := (I : Int) + K + 1) (by omega) (by omega) (by omega) (fun v hv => by rw [List.eq_of_mem_replicate hv]; omega) v hv) v hv
   omega
  have h4 : inB ((I : Int) + K + 1) 0 ((I : Int) + K + ((1 : Nat) : Int)) = true := inB_iff.2 (by omega)
  have h5 : (((dlF (dlF (List.replicate (I + K) 0) 0 1 0 I) I ((I : Int) + 1) ((I : Int) + K + 1) K).length : Int) == (I : Int) + K) = true := by rw [hlen, beq_iff_eq]; omega
  have hl1 : ([rowF b 1 0 (I + 1) ++ rowF a (-1) ((I : Int) + 1) K] : List (List (Int × Int))).length = 1 := rfl
  rw [hl1]
  rw [hd, hc, h1, h2, h5, h3, h4]; rfl
 ·unfold tinyN cntT
  rw [hlen]
  show 5 + ([(rowF b 1 0 (I + 1) ++ rowF a (-1) ((I : Int) + 1) K).length].sum) + 3 * 1 + 3 * (I + K) ≤ 512
  rw [htl]
  simp; omega
end Go.Proofs.YtdiflpbioohddaaDoor
end
section
namespace Go.Proofs.YtdiflpbioohddaaDoor
open Go.RowKit
theorem netB_mk {d0 d1 d2 d3 c0 c1 c2 c3 st out : Int} {ns : List (List (Int × Int))} {nx : List Int} (hd : okW d0 d1 d2 d3 = true) (hc : okW c0 c1 c2 c3 = true) (hst : st = nx.length) (hn : nx.length ≤ 64) (hnn : ns.length ≤ 64)
  (ht : ∀ (k : Nat) ts, ns[k]? = some ts → ts.length ≤ 64 ∧ ∀ t ∈ ts, termB c0 c1 c2 c3 (st + k) t = true) (hx : ∀ v ∈ nx, 0 ≤ v ∧ v ≤ st + ns.length) (ho : 0 ≤ out ∧ out ≤ st + ns.length) : netB d0 d1 d2 d3 c0 c1 c2 c3 st ns nx out = true := by
 have h1 : inB st 0 64 = true := inB_iff.2 (by omega)
 have h2 : nodesB c0 c1 c2 c3 st ns ns.length = true := by
  unfold nodesB
  refine List.all_eq_true.2 fun i hi => ?_
  cases e : ns[i]? with
  | none => rfl
  | some ts =>
   obtain ⟨k1, k2⟩ := ht i ts e
   show nodeB c0 c1 c2 c3 (st + i) ts = true
   unfold nodeB
   rw [decide_eq_true k1, Bool.true_and]
   exact List.all_eq_true.2 k2
 have h3 : (nx.all fun v => inB v 0 (st + ns.length)) = true := List.all_eq_true.2 fun v hv => inB_iff.2 (hx v hv)
 have h5 : ((nx.length : Int) == st) = true := by rw [beq_iff_eq]; omega
 unfold netB netHeadB
 rw [hd, hc, h1, decide_eq_true hnn, h5, h2, h3, inB_iff.2 ho]; rfl
theorem term_one {c0 c1 c2 c3 last : Int} {t : Int × Int} (h1 : 0 ≤ t.1 ∧ t.1 ≤ last) (h2 : fitsW c0 c1 c2 c3 t.2 = true ∨ t.2 = 2 ^ c1.toNat) : termB c0 c1 c2 c3 last t = true := by
 unfold termB
 rw [inB_iff.2 h1, Bool.true_and]
 rcases h2 with h | h
 ·rw [h]; rfl
 ·rw [h, beq_self_eq_true, Bool.or_true]
theorem unit_23 {c0 c1 c2 c3 : Int} (hc : okW c0 c1 c2 c3 = true) : -8388608 ≤ (2 : Int) ^ c1.toNat ∧ (2 : Int) ^ c1.toNat ≤ 8388608 := coef_range hc (.inr rfl)
theorem row_terms {c0 c1 c2 c3 last sign fr : Int} {l : List Int} {k : Nat} (hc : okW c0 c1 c2 c3 = true) (hk : k = l.length) (hs : sign = 1 ∨ sign = -1) (hf : 0 ≤ fr ∧ fr ≤ 1000) (hl : l.length ≤ 1000) (hlast : fr + l.length ≤ last + 1) (hv : ∀ v ∈ l, (fitsW c0 c1 c2 c3 v = true ∨ v = 2 ^ c1.toNat) ∧ (fitsW c0 c1 c2 c3 (sign * v) = true ∨ sign * v = 2 ^ c1.toNat)) : ∀ t ∈ rowF l sign fr k, termB c0 c1 c2 c3 last t = true := fun t ht => by
 obtain ⟨h1, v, h2, h3⟩ := row_mem hk hs hf hl (fun v h => coef_range hc (hv v h).1) ht
 exact term_one (by omega) (by rw [h3]; exact (hv v h2).2)
def twoNs (b a : List Int) (u : Int) (S : Nat) : List (List (Int × Int)) := [rowF [u] 1 0 1 ++ rowF a (-1) 1 a.length, rowF (b.take 1) 1 ((S : Int) + 1) 1 ++ rowF (b.drop 1) 1 1 (b.drop 1).length]
def twoNx (S : Nat) : List Int := dlF (List.replicate S 0) 0 1 ((S : Int) + 1) S
theorem two_ok {d0 d1 d2 d3 c0 c1 c2 c3 : Int} {a b : List Int} {I K S : Nat} (hd : okW d0 d1 d2 d3 = true) (hc : okW c0 c1 c2 c3 = true) (ha : a.length = K) (hb : b.length = I + 1) (hn : I ≤ 48 ∧ K ≤ 8) (hS : S = max I K) (fb : ∀ v ∈ b, fitsW c0 c1 c2 c3 v = true) (fa : ∀ v ∈ a, fitsW c0 c1 c2 c3 v = true ∧ fitsW c0 c1 c2 c3 (-v) = true) :
  netB d0 d1 d2 d3 c0 c1 c2 c3 (S : Int) (twoNs b a (2 ^ c1.toNat) S) (twoNx S) ((S : Int) + 2) = true ∧ tinyN (twoNs b a (2 ^ c1.toNat) S) (twoNx S) := by
 have hlen : (twoNx S).length = S := by unfold twoNx; rw [dlF_length, List.length_replicate]
 have hb1 : (b.take 1).length = 1 := by rw [List.length_take]; omega
 have hb2 : (b.drop 1).length = I := by rw [List.length_drop]; omega
 have l0 : (rowF [(2 : Int) ^ c1.toNat] 1 0 1 ++ rowF a (-1) 1 a.length).length = 1 + K := by rw [List.length_append, rowF_length, rowF_length, ha]; rfl
 have l1 : (rowF (b.take 1) 1 ((S : Int) + 1) 1 ++ rowF (b.drop 1) 1 1 (b.drop 1).length).length = 1 + I := by rw [List.length_append, rowF_length, rowF_length, hb1, hb2]
 refine ⟨netB_mk hd hc (by rw [hlen]) (by rw [hlen]; omega) (by show 2 ≤ 64; decide) (fun k ts hk => ?_) (fun v hv => ?_) (by show 0 ≤ (S : Int) + 2 ∧ (S : Int) + 2 ≤ (S : Int) + ((2 : Nat) : Int); omega), ?_⟩
 ·match k, hk with
  | 0, hk =>
   have hk : some _ = some ts := hk
   injection hk with hk
   subst hk
   refine ⟨by rw [l0]; omega, fun t ht => ?_⟩
   rcases List.mem_append.1 ht with h | h
   ·exact row_terms hc rfl (.inl rfl) (by omega) (by simp) (by show (0 : Int) + ((1 : Nat) : Int) ≤ _; omega) (fun v hv => by rw [List.mem_singleton.1 hv]; exact ⟨.inr rfl, .inr (by omega)⟩) t h
   ·exact row_terms hc rfl (.inr rfl) (by omega) (by omega) (by omega) (fun v hv => ⟨.inl (fa v hv).1, .inl (by rw [show (-1 : Int) * v = -v by omega]; exact (fa v hv).2)⟩) t h
  | 1, hk =>
   have hk : some _ = some ts := hk
   injection hk with hk
   subst hk
   refine ⟨by rw [l1]; omega, fun t ht => ?_⟩
   rcases List.mem_append.1 ht with h | h
   ·exact row_terms hc hb1.symm (.inl rfl) (by omega) (by omega) (by omega) (fun v hv => by have := fb v (List.mem_of_mem_take hv); exact ⟨.inl this, .inl (by rw [Int.one_mul]; exact this)⟩) t h
   ·exact row_terms hc rfl (.inl rfl) (by omega) (by omega) (by omega) (fun v hv => by have := fb v (List.mem_of_mem_drop hv); exact ⟨.inl this, .inl (by rw [Int.one_mul]; exact this)⟩) t h
 ·have := dl_mem (m := (S : Int) + 1) (by omega) (by omega) (by omega) (fun v hv => by rw [List.eq_of_mem_replicate hv]; omega) v hv
  show 0 ≤ v ∧ v ≤ (S : Int) + ((2 : Nat) : Int)
  omega
 ·unfold tinyN cntT
  rw [hlen]
  show 5 + ([(rowF [(2 : Int) ^ c1.toNat] 1 0 1 ++ rowF a (-1) 1 a.length).length, (rowF (b.take 1) 1 ((S : Int) + 1) 1 ++ rowF (b.drop 1) 1 1 (b.drop 1).length).length].sum) + 3 * 2 + 3 * S ≤ 512
  rw [l0, l1]
  simp; omega
def trNode (b a : List Int) (u : Int) (S k : Nat) : List (Int × Int) :=
 (if k < b.length then rowF ((b.drop k).take 1) 1 0 1 else []) ++ (if 1 ≤ k ∧ k ≤ a.length then rowF ((a.drop (k - 1)).take 1) (-1) ((S : Int) + 1) 1 else []) ++ (if k < S then rowF [u] 1 ((k : Int) + 1) 1 else [])
def trNs (b a : List Int) (u : Int) (S : Nat) : List (List (Int × Int)) := (List.range (S + 1)).map (trNode b a u S)
def trNx (S : Nat) : List Int := (List.range S).map fun (i : Nat) => (S : Int) + 2 + (i : Int)
theorem trNode_len (b a : List Int) (u : Int) (S k : Nat) : (trNode b a u S k).length ≤ 3 := by
 have h1 : (if k < b.length then rowF ((b.drop k).take 1) 1 0 1 else []).length ≤ 1 := by
  split
  ·rw [rowF_length, List.length_take]; omega
  ·simp
 have h2 : (if 1 ≤ k ∧ k ≤ a.length then rowF ((a.drop (k - 1)).take 1) (-1) ((S : Int) + 1) 1 else []).length ≤ 1 := by
  split
  ·rw [rowF_length, List.length_take]; omega
  ·simp
 have h3 : (if k < S then rowF [u] 1 ((k : Int) + 1) 1 else []).length ≤ 1 := by
  split
  ·rw [rowF_length]; simp
  ·simp
 unfold trNode
 rw [List.length_append, List.length_append]
 omega
theorem tr_ok {d0 d1 d2 d3 c0 c1 c2 c3 : Int} {a b : List Int} {I K S : Nat} (hd : okW d0 d1 d2 d3 = true) (hc : okW c0 c1 c2 c3 = true) (ha : a.length = K) (hb : b.length = I + 1) (hn : I ≤ 48 ∧ K ≤ 8) (hS : S = max I K) (fb : ∀ v ∈ b, fitsW c0 c1 c2 c3 v = true) (fa : ∀ v ∈ a, fitsW c0 c1 c2 c3 v = true ∧ fitsW c0 c1 c2 c3 (-v) = true) :
  netB d0 d1 d2 d3 c0 c1 c2 c3 (S : Int) (trNs b a (2 ^ c1.toNat) S) (trNx S) ((S : Int) + 1) = true ∧ tinyN (trNs b a (2 ^ c1.toNat) S) (trNx S) := by
 have hlen : (trNx S).length = S := by unfold trNx; simp
 have hnl : (trNs b a (2 ^ c1.toNat) S).length = S + 1 := by unfold trNs; simp
 refine ⟨netB_mk hd hc (by rw [hlen]) (by rw [hlen]; omega) (by rw [hnl]; omega) (fun k ts hk => ?_) (fun v hv => ?_) (by rw [hnl]; omega), ?_⟩
 ·have hkl := (List.getElem?_eq_some_iff.1 hk).1
  rw [hnl] at hkl
  unfold trNs at hk
  rw [List.getElem?_map, List.getElem?_range hkl] at hk
  injection hk with hk
  subst hk
  refine ⟨Nat.le_trans (trNode_len _ _ _ _ _) (by decide), fun t ht => ?_⟩
  unfold trNode at ht
  rcases List.mem_append.1 ht with ht | ht
  ·rcases List.mem_append.1 ht with ht | ht
   ·split at ht
    ·have hl1 : ((b.drop k).take 1).length = 1 := by rw [List.length_take, List.length_drop]; omega
     exact row_terms hc hl1.symm (.inl rfl) (by omega) (by omega) (by omega) (fun v hv => by have := fb v (List.mem_of_mem_drop (List.mem_of_mem_take hv)); exact ⟨.inl this, .inl (by rw [Int.one_mul]; exact this)⟩) t ht
    ·simp at ht
   ·split at ht
    ·rename_i hk1
     have hl1 : ((a.drop (k - 1)).take 1).length = 1 := by rw [List.length_take, List.length_drop]; omega
     exact row_terms hc hl1.symm (.inr rfl) (by omega) (by omega) (by omega) (fun v hv => by have := fa v (List.mem_of_mem_drop (List.mem_of_mem_take hv)); exact ⟨.inl this.1, .inl (by rw [show (-1 : Int) * v = -v by omega]; exact this.2)⟩) t ht
    ·simp at ht
  ·split at ht
   ·exact row_terms hc rfl (.inl rfl) (by omega) (by simp) (by show (k : Int) + 1 + ((1 : Nat) : Int) ≤ _; omega) (fun v hv => by rw [List.mem_singleton.1 hv]; exact ⟨.inr rfl, .inr (by omega)⟩) t ht
   ·simp at ht
 ·unfold trNx at hv
  obtain ⟨i, hi, rfl⟩ := List.mem_map.1 hv
  have := List.mem_range.1 hi
  rw [hnl]; omega
 ·refine tiny_of (m := 3) (fun ts hts => ?_) (by rw [hnl, hlen]; omega)
  unfold trNs at hts
  obtain ⟨k, -, rfl⟩ := List.mem_map.1 hts
  exact trNode_len _ _ _ _ _
end Go.Proofs.YtdiflpbioohddaaDoor
end
