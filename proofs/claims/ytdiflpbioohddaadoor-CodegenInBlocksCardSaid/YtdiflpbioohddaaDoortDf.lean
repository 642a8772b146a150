/- Package direct: Transposed. -/
import Derived.Test.YtdiflpbioohddaaDoortDe
set_option linter.unusedVariables false
set_option linter.unusedSimpArgs false
namespace Go.Proofs.YtdiflpbioohddaaDoor
open Go.RowKit
def trX (S k : Nat) : List Int := (List.range S).map fun (i : Nat) => if i + 1 < k then (S : Int) + 2 + (i : Int) else 0
theorem trX_len (S k : Nat) : (trX S k).length = S := by simp [trX]
theorem trX_low (S k : Nat) (h : k ≤ 1) : trX S k = List.replicate S 0 := by
 refine List.ext_getElem (by simp [trX]) fun i h1 h2 => ?_
 simp [trX]
 intro h3; omega
theorem trX_all (S : Nat) : trX S (S + 1) = trNx S := by
 unfold trX trNx
 refine List.map_congr_left fun i hi => ?_
 rw [if_pos (by have := List.mem_range.1 hi; omega)]
theorem trX_succ {S k j : Nat} (h : k = j + 1) : trX S (k + 1) = (trX S k).set j ((S : Int) + 1 + (k : Int)) := by
 refine List.ext_getElem (by simp [trX]) fun i h1 h2 => ?_
 rw [List.getElem_set]
 simp only [trX, List.getElem_map, List.getElem_range]
 by_cases e : j = i
 ·rw [if_pos e, if_pos (by omega)]; omega
 ·rw [if_neg e]
  by_cases e2 : i + 1 < k
  ·rw [if_pos (by omega), if_pos e2]
  ·rw [if_neg (by omega), if_neg e2]
theorem trX_get {S k j : Nat} (h : j < S) : (trX S k)[j]? = some (if j + 1 < k then (S : Int) + 2 + (j : Int) else 0) := by
 simp [trX, h]
def trR (b a : List Int) (u : Int) (S k : Nat) : List (List (Int × Int)) := (List.range k).map (trNode b a u S)
theorem trR_succ (b a : List Int) (u : Int) (S k : Nat) : trR b a u S (k + 1) = trR b a u S k ++ [trNode b a u S k] := by simp [trR, List.range_succ]
theorem trR_len (b a : List Int) (u : Int) (S k : Nat) : (trR b a u S k).length = k := by simp [trR]
theorem Ints.oneL {w : World} {ad : Addr} {l : List Int} {c k : Nat} (h : Ints w (some ad) l) (hk : k < l.length) (hc : l.length ≤ c) : Ints w (some (ad.add k)) ((l.drop k).take 1) := by
 have h1 := h.dropL (c := c) (k := k) hc
 rw [if_neg (by omega)] at h1
 exact h1.takeL 1
def tfF (b S : Nat) (d c : Int × Int × Int × Int) : Nat → Value → World → Prop
 | 0, v, _ => v = wordV d.1 d.2.1 d.2.2.1 d.2.2.2
 | 1, v, _ => v = wordV c.1 c.2.1 c.2.2.1 c.2.2.2
 | 2, v, _ | 3, v, _ => v = .int .i64 (S : Int)
 | 4, v, w => ∃ h, v = .slice (some ⟨h, 0, none⟩) S S ∧ Own b w (.slice (some ⟨h, 0, none⟩) S S) (List.replicate S 0)
 | 5, v, _ => v = .int .i64 ((S : Int) + 1)
 | 6, v, w => ∃ h, v = .agg (netL d c (S : Int) (.slice none 0 0) (.slice (some ⟨h, 0, none⟩) S S) ((S : Int) + 1)).toArray ∧ Own b w (.slice (some ⟨h, 0, none⟩) S S) (List.replicate S 0)
 | 7, v, w => ∃ g, v = .pointer (some ⟨g, 0, none⟩) ∧ b ≤ g ∧ w.heap[g]? = some (.cells zNet12.toArray 27 (0, 0))
 | _, _, _ => True
theorem tfF_keep {b S : Nat} {d c : Int × Int × Int × Int} {w w' : World} (h : Below w.heap.size w w') : ∀ i v, tfF b S d c i v w → tfF b S d c i v w'
 | 0, _, e | 1, _, e | 2, _, e | 3, _, e | 5, _, e => e
 | 4, _, ⟨g, e, ho⟩ | 6, _, ⟨g, e, ho⟩ => ⟨g, e, ho.grow h⟩
 | 7, _, ⟨g, e, hb, hh⟩ => ⟨g, e, hb, heap_keep h hh⟩
 | _ + 8, _, _ => trivial
theorem OwnNd.into {base n c : Nat} {w : World} {A : Option Addr} {ns : List (List (Int × Int))} (h : OwnNd base w (.slice A n c) ns) : n = ns.length ∧ NodesAt w A ns := by
 obtain ⟨A', c', e, hn⟩ := h.form
 injection e with e1 e2 e3
 subst e1 e2 e3
 exact ⟨rfl, hn⟩
theorem OwnNd.intoF {base n c : Nat} {w : World} {A : Option Addr} {ns : List (List (Int × Int))} (h : OwnNd base w (.slice A n c) ns) : NodesF base w A ns := by
 obtain ⟨cs, h1, h3⟩ := h
 obtain ⟨A', c', e, -⟩ := own_form h1
 injection e with e1 e2 e3
 subst e2
 intro k l hk
 obtain ⟨C, d, c0, hi, hq⟩ := h3 k l hk
 obtain ⟨g, e0, hg, d0⟩ := own_cells h1 c0
 refine ⟨_, C, d, e0, ?_, hg, by rw [add_cellsB]; exact d0, hi, fun hl a ha => (hq hl a ha).1⟩
 subst e0
 exact (h1.lt g rfl).1
set_option maxRecDepth 100000 in
set_option maxHeartbeats 8000000 in
theorem dr_Transposed (A B : Option Addr) (ca cb I K S : Nat) (a b : List Int) (d c : Int × Int × Int × Int) (w : World) (hA : Ints w A a) (hB : Ints w B b) (ha : a.length = K) (hb : b.length = I + 1) (hcb : I + 1 ≤ cb) (hca : K ≤ ca) (hS : S = max I K)
  (hd : okW d.1 d.2.1 d.2.2.1 d.2.2.2 = true) (hc : okW c.1 c.2.1 c.2.2.1 c.2.2.2 = true) (hn : I ≤ 48 ∧ K ≤ 8) (fb : ∀ v ∈ b, fitsW c.1 c.2.1 c.2.2.1 c.2.2.2 v = true) (fa : ∀ v ∈ a, fitsW c.1 c.2.1 c.2.2.1 c.2.2.2 v = true ∧ fitsW c.1 c.2.1 c.2.2.1 c.2.2.2 (-v) = true) :
  Calls Tryd.prog 47 #[.slice B (I + 1) cb, .slice A K ca, wordV d.1 d.2.1 d.2.2.1 d.2.2.2, wordV c.1 c.2.1 c.2.2.1 c.2.2.2] w (RetND w ⟨d.1, d.2.1, d.2.2.1, d.2.2.2, c.1, c.2.1, c.2.2.1, c.2.2.2, (S : Int), (S : Int) + 1, trNs b a (2 ^ c.2.1.toNat) S, trNx S⟩ 0) := by
 have QW : Hid (∀ w1, Below w.heap.size w w1 → Calls Tryd.prog 62 #[.slice B (I + 1) cb, .slice A K ca, wordV d.1 d.2.1 d.2.2.1 d.2.2.2, wordV c.1 c.2.1 c.2.2.1 c.2.2.2] w1 fun e w' => e = .returned (.int .i64 0) ∧ Below w1.heap.size w1 w') := fun w1 h => dr_wrong A B ca cb K (I + 1) a b d c w1 (hA.grow h) (hB.grow h) ha hb hd hc (by omega) fb fa
 obtain ⟨n1, n2⟩ := hn
 obtain ⟨o1, o2, o3, o4, -⟩ := okW_iff.1 hc
 have HLA := Lib.hid ha
 have HLB := Lib.hid hb
 have HA := Lib.hid hA
 have HB := Lib.hid hB
 obtain ⟨d0, d1, d2, d3⟩ := d
 obtain ⟨c0, c1, c2, c3⟩ := c
 simp only at QW o1 o2 o3 o4 ⊢
 have hmx : max ((I : Int)) (K : Int) = (S : Int) := by omega
 have hS56 : S ≤ 48 := by omega
 have hSI : I ≤ S := by omega
 have HSI := Lib.hid hSI
 clear hSI
 have HSM := Lib.hid hS
 have H23 := Lib.hid (unit_23 hc).2
 clear hd hc fb fa ha hb hA hB hS
 go_enter Tryd.func47, Tryd.ntmps47
 go_upto_region 1 with fail
 obtain ⟨⟨b0, b1⟩, b2, hb0⟩ := entry3b (t := 23) (u := 23) (v := 27) w [.int .i64 d0, .int .i64 d1, .int .i64 d2, .int .i64 d3] [.int .i64 c0, .int .i64 c1, .int .i64 c2, .int .i64 c3] zNet12 _ rfl
 change Code.wp _ _ _ _ (((w.alloc (.cells [.int .i64 d0, .int .i64 d1, .int .i64 d2, .int .i64 d3].toArray 23)).alloc (.cells [.int .i64 c0, .int .i64 c1, .int .i64 c2, .int .i64 c3].toArray 23)).alloc (.cells zNet12.toArray 27))
 generalize (((w.alloc (.cells [.int .i64 d0, .int .i64 d1, .int .i64 d2, .int .i64 d3].toArray 23)).alloc (.cells [.int .i64 c0, .int .i64 c1, .int .i64 c2, .int .i64 c3].toArray 23)).alloc (.cells zNet12.toArray 27)) = W1 at b0 b1 b2 hb0 ⊢
 obtain ⟨z0, z1, z2, z3⟩ := b0.c4
 obtain ⟨y0, y1, y2, y3⟩ := b1.c4
 have B0 := Lib.hid b0
 have B1 := Lib.hid b1
 have B2 := Lib.hid b2
 have HW1 := Lib.hid hb0
 clear b0 b1 b2 hb0
 go_upto_region 6 with (go_at_call 62; (with_reducible refine (QW.out _ HW1.out).mono ?_); rintro e2 w2 ⟨rfl, hb2⟩; have HB2 := Lib.hid hb2; clear hb2)
 have HW2 := Lib.hid (below_then HW1.out HB2.out)
 have D0 := Lib.hid (B0.out.keep HB2.out)
 have D1 := Lib.hid (B1.out.keep HB2.out)
 have D2 := Lib.hid (B2.out.keep HB2.out)
 clear HB2 HW1 B0 B1 B2 QW z0 z1 z2 z3 y0 y1 y2 y3
 have ws : IntKind.i64.wrap ((S : Int) + 1) = (S : Int) + 1 := IntWalk.i64_in _ (by omega)
 refine wp_region_grow2 (fun i => Nat.blt i 8) (fun _ => false) (fun w3 => Below w2.heap.size w2 w3) (fun a b => Below a.heap.size a b) (tfF w2.heap.size S (d0, d1, d2, d3) (c0, c1, c2, c3)) (by kernel_rfl) (by kernel_rfl) (Below.refl _ _).drew (fun a b h1 h2 => ⟨below_then h1 h2, fun i _ v => tfF_keep h2 i v⟩) (fun _ _ => Below.refl _ _) ?_ (fun _ _ _ _ h => by cases h) ?_
 ·refine ⟨?_, ?_, ?_, ?_, ?_, ?_, ?_, ?_, trivial⟩
  all_goals
   intro vs w3 hp hF
   obtain ⟨z0, z1, z2, z3⟩ := (D0.out.keep hp).c4
   obtain ⟨y0, y1, y2, y3⟩ := (D1.out.keep hp).c4
   simp [depsB, Region.binds, tfF] at hF
   simp [stL, depsB, Region.binds, Act.put, hF]
  all_goals try (go_wp2_with fail; exact ⟨rfl, Below.refl _ _⟩)
  ·refine mk_int rfl _ _ rfl w3.heap.size S rfl rfl rfl (by omega) (Nat.le_refl _) ?_
   intro w6 ho6 hb6
   exact wpList_nil ⟨rfl, _, rfl, ⟨_, rfl, ho6.base hp.size⟩, hb6⟩
  ·obtain ⟨-, -, -, ⟨h, e4, ho⟩, -⟩ := hF
   rw [e4]
   refine wp_bldR rfl 27 _ rfl _ rfl (built_net5 d0 d1 d2 d3 c0 c1 c2 c3 (S : Int) ((S : Int) + 1) (some ⟨h, 0, none⟩) S S) ?_
   exact wpList_nil ⟨rfl, _, rfl, ⟨h, rfl, ho⟩, Below.refl _ _⟩
  ·go_wp2_with fail
   exact ⟨⟨_, rfl, hp.size, heap_new _ _⟩, Below.alloc (Below.refl _ _) (Nat.le_refl _) _⟩
 intro vs w3 hp hF
 have e7 := hF 6 (by decide) rfl
 have e8 := hF 7 (by decide) rfl
 obtain ⟨h, e7, ho3⟩ := e7
 obtain ⟨g, e8, hgb, hgh⟩ := e8
 show wpList Tryd.prog _ _ [_] _ _
 simp [stL, Act.put, e7, e8]
 generalize vs 0 = x10
 generalize vs 1 = x11
 generalize vs 2 = x12
 generalize vs 3 = x13
 generalize vs 4 = x14
 generalize vs 5 = x15
 have hne := own_type ho3 hgh (by decide)
 refine st_netL (box_heap hgh) rfl (L := netL (d0, d1, d2, d3) (c0, c1, c2, c3) (S : Int) (.slice none 0 0) (.slice (some ⟨h, 0, none⟩) S S) ((S : Int) + 1)) rfl rfl rfl _ _ rfl rfl rfl ?_
 intro W4 hbx hgx
 have HG4 := Lib.hid hbx
 have HO4 : Hid (Own w2.heap.size W4 (.slice (some ⟨h, 0, none⟩) S S) (List.replicate S 0)) := Lib.hid ⟨ho3.1.kept hgx (.inr (fun e => hne (by injection e with e; exact e.symm))), ho3.2⟩
 have HB4 := Lib.hid (grown_to hp hgx hgb)
 have HNE := Lib.hid hne
 have HGB := Lib.hid hgb
 clear hF e7 e8 hgh hgb hbx hgx ho3 hp hne
 obtain ⟨y0, y1, y2, y3⟩ := (D1.out.keep HB4.out).c4
 obtain ⟨Q, hQ⟩ : ∃ Q, (2 : Int) ^ c1.toNat = Q := ⟨_, rfl⟩
 have q0 : 0 < Q := by rw [← hQ]; exact pow_pos' _
 have q1 : IntKind.i64.wrap ((2 : Int) ^ c1.toNat) = Q := by rw [← hQ]; exact IntWalk.i64_in _ (by have := pow_pos' c1.toNat; have := pow_62 (n := c1.toNat) (by omega); omega)
 have q3 : Q ≤ 8388608 := by rw [← hQ]; exact H23.out
 have q2 : wrap64 Q = Q := by unfold wrap64; omega
 have HQ := Lib.hid hQ
 have o5 : c1.toNat ≤ 61 := by omega
 go_upto_region 8 with fail
 have hU : Own W4.heap.size (W4.alloc (.cells #[.int .i64 Q] 3)) (.slice (some ⟨W4.heap.size, 0, none⟩) 1 1) [Q] := Own.one ⟨by omega, by omega⟩
 have hnb : Below W4.heap.size W4 (W4.alloc (.cells #[.int .i64 Q] 3)) := (Below.refl _ _).alloc (Nat.le_refl _) _
 have hsz : (W4.alloc (.cells #[.int .i64 Q] 3)).heap.size = W4.heap.size + 1 := by simp
 have HHL := Lib.hid (HO4.out.block)
 have HGL := Lib.hid HG4.out.1
 obtain ⟨ug, hug⟩ : ∃ k, k = W4.heap.size := ⟨_, rfl⟩
 have hhg : h < ug ∧ g < ug := ⟨by rw [hug]; exact HHL.out.2, by rw [hug]; exact HGL.out⟩
 rw [← hug] at hU hsz ⊢
 have hW5 := below_then HB4.out hnb
 have HBW5 := Lib.hid (below_then HW2.out hW5)
 have hgx : Box (W4.alloc (.cells #[.int .i64 Q] 3)) g (netL (d0, d1, d2, d3) (c0, c1, c2, c3) (S : Int) (.slice none 0 0) (.slice (some ⟨h, 0, none⟩) S S) ((S : Int) + 1)) := HG4.out.keep hnb
 have hox := HO4.out.grow hnb
 generalize W4.alloc (.cells #[.int .i64 Q] 3) = W5 at hU hnb hW5 HBW5 hgx hox hsz ⊢
 have HU := Lib.hid hU
 have HG5 := Lib.hid hgx
 have HO5 := Lib.hid hox
 have HW5 := Lib.hid hW5
 have HHG := Lib.hid hhg
 have HSZ := Lib.hid hsz
 have HW2L := Lib.hid D2.out.1
 have HHB := Lib.hid HHL.out.1
 clear hU hnb hW5 hgx hox hug HO4 HG4 HB4 y0 y1 y2 y3 hhg hsz HHL HGL
 have HA2 : Hid (∀ w1, Below w2.heap.size w2 w1 → Ints w1 A a) := Lib.hid fun w1 hb => (HA.out.grow (below_then HW2.out hb))
 have HB2 : Hid (∀ w1, Below w2.heap.size w2 w1 → Ints w1 B b) := Lib.hid fun w1 hb => (HB.out.grow (below_then HW2.out hb))
 obtain ⟨bd, hBs⟩ : ∃ ad, B = some ad := by
  obtain ⟨ad, _, e, _⟩ := HB.out.at_ (k := 0) (by rw [HLB.out]; omega)
  exact ⟨ad, e⟩
 subst hBs
 clear HB HA
 have HWS := Lib.hid ws
 clear ws
 go_wp2_with fail
 go_loopw [47] (fun i wr => ∃ (k : Nat) (NA : Option Addr) (nc : Nat), i = .int .i64 k ∧ k ≤ S + 1 ∧ Box wr g (netL (d0, d1, d2, d3) (c0, c1, c2, c3) (S : Int) (.slice NA k nc) (.slice (some ⟨h, 0, none⟩) S S) ((S : Int) + 1)) ∧ Own w2.heap.size wr (.slice (some ⟨h, 0, none⟩) S S) (trX S k) ∧ OwnNd W5.heap.size wr (.slice NA k nc) (trR b a Q S k) ∧ Own ug wr (.slice (some ⟨ug, 0, none⟩) 1 1) [Q] ∧ Below w2.heap.size w2 wr ∧ W5.heap.size ≤ wr.heap.size) (fun i _ => S + 1 - (intOf i).toNat)
 case atStart => exact ⟨0, none, 0, rfl, Nat.zero_le _, HG5.out, by rw [trX_low _ _ (by omega)]; exact HO5.out, OwnNd.nil, HU.out, HW5.out, Nat.le_refl _⟩
 case round =>
  clear HU HG5 HO5 HW5
  obtain ⟨k, NA, nc, rfl, hk, hG, hO, hN, hU, hBw, hsw⟩ := hrel
  have HG := Lib.hid hG
  have HO := Lib.hid hO
  have HN := Lib.hid hN
  have HU := Lib.hid hU
  have HB := Lib.hid hBw
  have HSW := Lib.hid hsw
  clear hG hO hN hU hBw hsw
  by_cases hlt : k < S + 1
  ·have x1 : (k : Int) < (S : Int) + 1 := by omega
   have xk : IntKind.i64.wrap ((k : Int) + 1) = (k : Int) + 1 := IntWalk.i64_in _ (by omega)
   have JN : Hid (∀ p w1 (x y : List (Int × Int)), x.length ≤ 10 → y.length ≤ 10 → NodesAt w1 (some ⟨p, 0, none⟩) [x, y] → Calls Tryd.prog 63 #[.slice (some ⟨p, 0, none⟩) 2 2] w1 (RetTm w1 (x ++ y))) := fun p w1 x y h1 h2 hi => by
    have h := dr_join (some ⟨p, 0, none⟩) 2 2 [x, y] w1 hi rfl (by omega) (fun ts ht => by simp at ht; rcases ht with rfl | rfl <;> omega)
    rw [show [x, y].flatten = x ++ y by simp] at h
    exact h
   obtain ⟨rb, hrb⟩ : ∃ r, rowF ((b.drop k).take 1) 1 0 1 = r := ⟨_, rfl⟩
   obtain ⟨ra, hra⟩ : ∃ r, rowF ((a.drop (k - 1)).take 1) (-1) ((S : Int) + 1) 1 = r := ⟨_, rfl⟩
   obtain ⟨ru, hru⟩ : ∃ r, rowF [Q] 1 ((k : Int) + 1) 1 = r := ⟨_, rfl⟩
   have lru : ru.length = 1 := by rw [← hru, rowF_length]; rfl
   have RB : Hid (k < I + 1 → rb.length = 1 ∧ ∀ A1 c1 w1, Ints w1 A1 ((b.drop k).take 1) → Calls Tryd.prog 64 #[.slice A1 1 c1, .int .i64 1, .int .i64 0] w1 (RetTm w1 rb)) := fun hkb => by
    have hl : ((b.drop k).take 1).length = 1 := by rw [List.length_take, List.length_drop, HLB.out]; omega
    exact ⟨by rw [← hrb, rowF_length]; exact hl, fun A1 c1 w1 hi => by rw [← hrb]; exact dr_row A1 c1 1 _ 1 0 w1 hi hl (by omega)⟩
   have RA : Hid (1 ≤ k ∧ k ≤ K → ra.length = 1 ∧ ∀ A1 c1 w1, Ints w1 A1 ((a.drop (k - 1)).take 1) → Calls Tryd.prog 64 #[.slice A1 1 c1, .int .i64 (-1), .int .i64 ((S : Int) + 1)] w1 (RetTm w1 ra)) := fun hka => by
    have hl : ((a.drop (k - 1)).take 1).length = 1 := by rw [List.length_take, List.length_drop, HLA.out]; omega
    exact ⟨by rw [← hra, rowF_length]; exact hl, fun A1 c1 w1 hi => by rw [← hra]; exact dr_row A1 c1 1 _ (-1) ((S : Int) + 1) w1 hi hl (by omega)⟩
   have RU : Hid (∀ w1, Own ug w1 (.slice (some ⟨ug, 0, none⟩) 1 1) [Q] → Calls Tryd.prog 64 #[.slice (some ⟨ug, 0, none⟩) 1 1, .int .i64 1, .int .i64 ((k : Int) + 1)] w1 (RetTm w1 ru)) := fun w1 ho => by rw [← hru]; exact dr_row _ 1 1 [Q] 1 ((k : Int) + 1) w1 ho.ints rfl (by omega)
   obtain ⟨t1, ht1⟩ : ∃ t, (if k < I + 1 then rb else []) = t := ⟨_, rfl⟩
   obtain ⟨t2, ht2⟩ : ∃ t, t1 ++ (if 1 ≤ k ∧ k ≤ K then ra else []) = t := ⟨_, rfl⟩
   obtain ⟨t3, ht3⟩ : ∃ t, t2 ++ (if k < S then ru else []) = t := ⟨_, rfl⟩
   have HND : Hid (trNode b a Q S k = t3) := by
    unfold trNode
    rw [HLB.out, HLA.out, hrb, hra, hru, ht1, ht2, ht3]
    exact rfl
   have LU := Lib.hid lru
   obtain ⟨m1, hm1⟩ : ∃ m, m = t1.length := ⟨_, rfl⟩
   obtain ⟨m2, hm2⟩ : ∃ m, m = t2.length := ⟨_, rfl⟩
   obtain ⟨m3, hm3⟩ : ∃ m, m = t3.length := ⟨_, rfl⟩
   have HM1 := Lib.hid hm1
   have HM2 := Lib.hid hm2
   have HM3 := Lib.hid hm3
   have HT1 := Lib.hid ht1
   have HT2 := Lib.hid ht2
   have HT3 := Lib.hid ht3
   clear hrb hra hru lru hm1 hm2 hm3 ht1 ht2 ht3
   have HKL := Lib.hid hlt
   have HK0 := Lib.hid hk
   clear hlt hk
   go_upto_if 53 with fail
   go_cut [16] (fun s wx => ∃ (A1 : Option Addr) (d1 : Nat), s = .slice A1 m1 d1 ∧ Hid (TermsF wr.heap.size wx A1 t1) ∧ Hid (Below wr.heap.size wr wx))
   case first =>
    by_cases hkb : k < I + 1
    ·obtain ⟨l1, R1⟩ := RB.out hkb
     have e1 : rb = t1 := by have := HT1.out; rw [if_pos hkb] at this; exact this
     subst e1
     have HL1 := Lib.hid l1
     have HR1 := Lib.hid R1
     have em : m1 = 1 := by rw [HM1.out]; exact l1
     subst em
     have x2 : (k : Int) < (I : Int) + 1 := by omega
     have x2d : decide ((k : Int) < (I : Int) + 1) = true := decide_eq_true x2
     have x3 : decide ((cb : Int) < (k : Int) + 1) = false := decide_eq_false (by omega)
     have x4 : ¬ cb = k := by omega
     have hI := Lib.hid ((HB2.out _ HB.out).oneL (c := cb) (k := k) (by rw [HLB.out]; exact hkb) (by rw [HLB.out]; exact hcb))
     clear l1 R1 RB RA RU
     go_wp2_with (first
      | (go_at_call 64; (with_reducible refine (HR1.out _ _ _ hI.out).mono ?_); rintro e7 w7 ⟨v7, rfl, ho7, hb7⟩; obtain ⟨A7, c7, e7, -, ht7⟩ := ho7.form; rw [HL1.out] at e7; subst e7; have HO7 := Lib.hid ho7; have HB7 := Lib.hid hb7; have HT7 := Lib.hid ht7; clear ho7 hb7 ht7)
      | (go_at_call 63; have hq := nodes_two (w := w7) (A2 := none) (A3 := A7) (c2 := 0) (c3 := c7) (n2 := 0) (n3 := 1) (t := 34) (r2 := []) TermsAt.nil (HT7.out.grow (Below.alloc (Below.refl _ _) (Nat.le_refl _) _)) rfl HL1.out; have HQ7 := Lib.hid hq; clear hq; (with_reducible refine (JN.out _ _ [] _ (Nat.zero_le _) (by rw [HL1.out]; decide) HQ7.out).mono ?_); rintro e8 w8 ⟨v8, rfl, ho8, hb8⟩; obtain ⟨A8, c8, e8, -, ht8⟩ := ho8.form; rw [List.nil_append, HL1.out] at e8; subst e8))
     go_meet
     have hb78 := below_then HB7.out (below_then (Below.alloc (Below.refl _ _) (Nat.le_refl _) _) hb8)
     exact ⟨A8, c8, rfl, Lib.hid (TermsF.own (ho8.base (below_then HB7.out (Below.alloc (Below.refl _ _) (Nat.le_refl _) _)).size) ht8), Lib.hid hb78⟩
    ·have e1 : [] = t1 := by have := HT1.out; rw [if_neg hkb] at this; exact this
     subst e1
     have em : m1 = 0 := HM1.out
     subst em
     have x2 : ¬ (k : Int) < (I : Int) + 1 := by omega
     have x2d : decide ((k : Int) < (I : Int) + 1) = false := decide_eq_false x2
     clear RB RA RU
     go_wp2_with fail
     go_meet
     exact ⟨none, 0, rfl, Lib.hid ⟨TermsAt.nil, fun _ h => by cases h⟩, Lib.hid (Below.refl _ _)⟩
   case rest =>
    obtain ⟨A1, d1', rfl, hT, hb1⟩ := hcut
    obtain ⟨v1, hv1⟩ : ∃ v1 : World, v1 = wc := ⟨_, rfl⟩
    subst hv1
    obtain ⟨D, hD⟩ : ∃ D, D = decide (1 ≤ k ∧ k ≤ K) := ⟨_, rfl⟩
    have HD := Lib.hid hD
    clear hD
    go_upto_region 14 with fail
    go_cut [70] (fun s wx => s = .bool D ∧ wx = v1)
    case first =>
     by_cases hk1 : 1 ≤ k
     ·have y1 : (1 : Int) ≤ (k : Int) := by omega
      have y1d : decide ((1 : Int) ≤ (k : Int)) = true := decide_eq_true y1
      by_cases hk2 : k ≤ K
      ·have y2 : (k : Int) ≤ (K : Int) := by omega
       have y2d : decide ((k : Int) ≤ (K : Int)) = true := decide_eq_true y2
       obtain rfl : D = true := HD.out.trans (decide_eq_true ⟨hk1, hk2⟩)
       clear hk1 hk2 RA RB RU
       go_wp2_with fail
       go_meet
       exact ⟨rfl, rfl⟩
      ·have y2 : ¬ (k : Int) ≤ (K : Int) := by omega
       have y2d : decide ((k : Int) ≤ (K : Int)) = false := decide_eq_false y2
       obtain rfl : D = false := HD.out.trans (decide_eq_false (fun h => hk2 h.2))
       clear hk1 hk2 RA RB RU
       go_wp2_with fail
       go_meet
       exact ⟨rfl, rfl⟩
     ·have y1 : ¬ (1 : Int) ≤ (k : Int) := by omega
      have y1d : decide ((1 : Int) ≤ (k : Int)) = false := decide_eq_false y1
      obtain rfl : D = false := HD.out.trans (decide_eq_false (fun h => hk1 h.1))
      clear hk1 RA RB RU
      go_wp2_with fail
      go_meet
      exact ⟨rfl, rfl⟩
    case rest =>
     obtain ⟨rfl, e0⟩ := hcut
     subst e0
     obtain ⟨v2, hv2⟩ : ∃ v2 : World, v2 = wc := ⟨_, rfl⟩
     subst hv2
     go_upto_if 70 with fail
     go_cut [16] (fun s wx => ∃ (A2 : Option Addr) (d2 : Nat), s = .slice A2 m2 d2 ∧ Hid (TermsF wr.heap.size wx A2 t2) ∧ Hid (Below wr.heap.size wr wx))
     case first =>
      cases D with
      | true =>
       obtain ⟨hk1, hk2⟩ := of_decide_eq_true HD.out.symm
       obtain ⟨la, R1⟩ := RA.out ⟨hk1, hk2⟩
       have HLA1 := Lib.hid la
       have HR1 := Lib.hid R1
       have e1 : t1 ++ ra = t2 := by have := HT2.out; rw [if_pos ⟨hk1, hk2⟩] at this; exact this
       have HE1 := Lib.hid e1
       obtain ⟨j, hj⟩ : ∃ j, k = j + 1 := ⟨k - 1, by omega⟩
       have y3 : IntKind.i64.wrap ((k : Int) - 1) = (j : Int) := (IntWalk.i64_in _ (by omega)).trans (by omega)
       have y4 : decide ((ca : Int) < (k : Int)) = false := decide_eq_false (by omega)
       have y5 : ¬ ca = j := by omega
       have y7 : k - j = 1 := by omega
       have y8 : k ≤ ca := by omega
       have y6 : decide ((k : Int) < (j : Int)) = false := decide_eq_false (by omega)
       have hAx := HA2.out _ (below_then HB.out hb1.out)
       obtain ⟨aa, hAs⟩ : ∃ aa, A = some aa := by
        obtain ⟨ad, _, e, _⟩ := hAx.at_ (k := 0) (by rw [HLA.out]; omega)
        exact ⟨ad, e⟩
       subst hAs
       have hI0 := hAx.oneL (c := ca) (k := j) (by rw [HLA.out]; omega) (by rw [HLA.out]; exact hca)
       have hI : Hid (Ints v2 (some (aa.add j)) ((a.drop (k - 1)).take 1)) := by rw [show k - 1 = j by omega]; exact hI0
       have HJ := Lib.hid hj
       have ht10 : t1.length ≤ 10 := by
        have := HT1.out
        by_cases hkb : k < I + 1
        ·rw [if_pos hkb] at this; rw [← this, (RB.out hkb).1]; decide
        ·rw [if_neg hkb] at this; rw [← this]; decide
       have HT10 := Lib.hid ht10
       have em : m2 = m1 + 1 := by rw [HM1.out, HM2.out, ← e1, List.length_append, la]
       have HEM := Lib.hid em
       have HTT := Lib.hid hT
       have HBB1 := Lib.hid hb1
       clear la R1 RB RA RU hj hI0 hAx e1 em ht10 hk1 hk2 hT hb1
       go_wp2_with (first
        | (go_at_call 64; (with_reducible refine (HR1.out _ _ _ hI.out).mono ?_); rintro e7 w7 ⟨v7, rfl, ho7, hb7⟩; obtain ⟨A7, c7, e7, -, ht7⟩ := ho7.form; rw [HLA1.out] at e7; subst e7; have HO7 := Lib.hid ho7; have HB7 := Lib.hid hb7; have HT7 := Lib.hid ht7; clear ho7 hb7 ht7)
        | (go_at_call 63; have hq := nodes_two (w := w7) (A2 := A1) (A3 := A7) (c2 := d1') (c3 := c7) (n2 := m1) (n3 := 1) (t := 34) (r2 := t1) ((HTT.out.out.grow HB7.out).1.grow (Below.alloc (Below.refl _ _) (Nat.le_refl _) _)) (HT7.out.grow (Below.alloc (Below.refl _ _) (Nat.le_refl _) _)) HM1.out.symm HLA1.out; have HQ7 := Lib.hid hq; clear hq; (with_reducible refine (JN.out _ _ t1 _ HT10.out (by rw [HLA1.out]; decide) HQ7.out).mono ?_); rintro e8 w8 ⟨v8, rfl, ho8, hb8⟩; obtain ⟨A8, c8, e8, -, ht8⟩ := ho8.form; rw [HE1.out, ← HM2.out] at e8; rw [HE1.out] at ht8 ho8; subst e8))
       go_meet
       have hb78 := below_then HB7.out (below_then (Below.alloc (Below.refl _ _) (Nat.le_refl _) _) hb8)
       have hbw := below_then HBB1.out.out hb78
       exact ⟨A8, c8, rfl, Lib.hid (TermsF.own (ho8.base (below_then HBB1.out.out (below_then HB7.out (Below.alloc (Below.refl _ _) (Nat.le_refl _) _))).size) ht8), Lib.hid hbw⟩
      | false =>
       have hn := of_decide_eq_false HD.out.symm
       have e1 : t1 = t2 := by have := HT2.out; rw [if_neg hn, List.append_nil] at this; exact this
       subst e1
       obtain rfl : m2 = m1 := by rw [HM1.out, HM2.out]
       clear RB RA RU hn
       go_wp2_with fail
       go_meet
       exact ⟨A1, d1', rfl, hT, hb1⟩
     case rest =>
      obtain ⟨A2, d2', rfl, hT2, hb2⟩ := hcut
      obtain ⟨v3, hv3⟩ : ∃ v3 : World, v3 = wc := ⟨_, rfl⟩
      subst hv3
      go_upto_if 83 with fail
      go_cut [16] (fun s wx => ∃ (A3 : Option Addr) (d3 : Nat), s = .slice A3 m3 d3 ∧ Hid (TermsF wr.heap.size wx A3 t3) ∧ Hid (Below wr.heap.size wr wx))
      case first =>
       by_cases hkS : k < S
       ·have z1 : (k : Int) < (S : Int) := by omega
        have z1d : decide ((k : Int) < (S : Int)) = true := decide_eq_true z1
        have e1 : t2 ++ ru = t3 := by have := HT3.out; rw [if_pos hkS] at this; exact this
        have HE1 := Lib.hid e1
        have ht20 : t2.length ≤ 10 := by
         rw [← HT2.out, ← HT1.out, List.length_append]
         have q1 : (if k < I + 1 then rb else []).length ≤ 1 := by
          by_cases hkb : k < I + 1
          ·rw [if_pos hkb, (RB.out hkb).1]; exact Nat.le_refl _
          ·rw [if_neg hkb]; exact Nat.zero_le _
         have q2 : (if 1 ≤ k ∧ k ≤ K then ra else []).length ≤ 1 := by
          by_cases hka : 1 ≤ k ∧ k ≤ K
          ·rw [if_pos hka, (RA.out hka).1]; exact Nat.le_refl _
          ·rw [if_neg hka]; exact Nat.zero_le _
         omega
        have HT20 := Lib.hid ht20
        have em : m3 = m2 + 1 := by rw [HM3.out, HM2.out, ← e1, List.length_append, LU.out]
        have HEM := Lib.hid em
        have HTT := Lib.hid hT2
        have HBB1 := Lib.hid hb2
        have HR1 : Hid (Calls Tryd.prog 64 #[.slice (some ⟨ug, 0, none⟩) 1 1, .int .i64 1, .int .i64 ((k : Int) + 1)] v3 (RetTm v3 ru)) := RU.out v3 (HU.out.grow hb2.out)
        clear RB RA RU e1 em ht20 hT2 hb2 hT hb1
        go_wp2_with (first
         | (go_at_call 64; (with_reducible refine HR1.out.mono ?_); rintro e7 w7 ⟨v7, rfl, ho7, hb7⟩; obtain ⟨A7, c7, e7, -, ht7⟩ := ho7.form; rw [LU.out] at e7; subst e7; have HO7 := Lib.hid ho7; have HB7 := Lib.hid hb7; have HT7 := Lib.hid ht7; clear ho7 hb7 ht7)
         | (go_at_call 63; have hq := nodes_two (w := w7) (A2 := A2) (A3 := A7) (c2 := d2') (c3 := c7) (n2 := m2) (n3 := 1) (t := 34) (r2 := t2) ((HTT.out.out.grow HB7.out).1.grow (Below.alloc (Below.refl _ _) (Nat.le_refl _) _)) (HT7.out.grow (Below.alloc (Below.refl _ _) (Nat.le_refl _) _)) HM2.out.symm LU.out; have HQ7 := Lib.hid hq; clear hq; (with_reducible refine (JN.out _ _ t2 _ HT20.out (by rw [LU.out]; decide) HQ7.out).mono ?_); rintro e8 w8 ⟨v8, rfl, ho8, hb8⟩; obtain ⟨A8, c8, e8, -, ht8⟩ := ho8.form; rw [HE1.out, ← HM3.out] at e8; rw [HE1.out] at ht8 ho8; subst e8))
        go_meet
        have hb78 := below_then HB7.out (below_then (Below.alloc (Below.refl _ _) (Nat.le_refl _) _) hb8)
        have hbw := below_then HBB1.out.out hb78
        exact ⟨A8, c8, rfl, Lib.hid (TermsF.own (ho8.base (below_then HBB1.out.out (below_then HB7.out (Below.alloc (Below.refl _ _) (Nat.le_refl _) _))).size) ht8), Lib.hid hbw⟩
       ·have z1 : ¬ (k : Int) < (S : Int) := by omega
        have z1d : decide ((k : Int) < (S : Int)) = false := decide_eq_false z1
        have e1 : t2 = t3 := by have := HT3.out; rw [if_neg hkS, List.append_nil] at this; exact this
        subst e1
        obtain rfl : m3 = m2 := by rw [HM2.out, HM3.out]
        clear RB RA RU hkS
        go_wp2_with fail
        go_meet
        exact ⟨A2, d2', rfl, hT2, hb2⟩
      case rest =>
       obtain ⟨A3, d3', rfl, hT3, hb3⟩ := hcut
       obtain ⟨v4, hv4⟩ : ∃ v4 : World, v4 = wc := ⟨_, rfl⟩
       subst hv4
       have HG4 := Lib.hid (HG.out.keep hb3.out)
       have HO4 := Lib.hid (HO.out.grow hb3.out)
       have HN4 := Lib.hid (HN.out.grow hb3.out)
       have HU4 := Lib.hid (HU.out.grow hb3.out)
       have HB4 := Lib.hid (below_then HB.out hb3.out)
       have HSV := Lib.hid hb3.out.size
       have HT4 := Lib.hid hT3.out
       have HNL := Lib.hid (fun q e => (HN.out.lt q e).2)
       clear hT3 hb3 hT2 hb2 hT hb1 RA RB RU JN HB HG HO HN HU
       go_upto_if 92 with fail
       go_cut [] (fun wx => Hid (Own w2.heap.size wx (.slice (some ⟨h, 0, none⟩) S S) (trX S (k + 1))) ∧ Hid (v4.grownBy wx (some h)))
       case first =>
        have yx : v4.cell? ⟨g, 10, none⟩ = some (.slice (some ⟨h, 0, none⟩) S S) := HG4.out.2.1 10
        by_cases hk1 : 1 ≤ k
        ·have y1 : (1 : Int) ≤ (k : Int) := by omega
         have y1d : decide ((1 : Int) ≤ (k : Int)) = true := decide_eq_true y1
         obtain ⟨j, hj⟩ : ∃ j, k = j + 1 := ⟨k - 1, by omega⟩
         have HX := Lib.hid (trX_succ (S := S) hj)
         have hjS : j < S := by have := HKL.out; omega
         have y3 : IntKind.i64.wrap ((k : Int) - 1) = (j : Int) := (IntWalk.i64_in _ (by omega)).trans (by omega)
         have y4 : (j : Int) < (S : Int) := by omega
         have y5 : (0 : Int) ≤ (j : Int) := by omega
         have y6 : IntKind.i64.wrap ((S : Int) + 1 + (k : Int)) = (S : Int) + 1 + (k : Int) := IntWalk.i64_in _ (by have := HKL.out; omega)
         have ct := HO4.out.cell (trX_get (k := k) hjS)
         have cf := HO4.out.free j
         have hA := add_cellsO h 0 j
         rw [Nat.zero_add] at hA
         clear hj hk1
         go_wp2_with fail
         go_meet
         exact ⟨Lib.hid (by rw [HX.out]; exact HO4.out.set j ⟨by omega, by have := HKL.out; omega⟩), Lib.hid (grown_set (grown_refl _ _))⟩
        ·have y1 : ¬ (1 : Int) ≤ (k : Int) := by omega
         have y1d : decide ((1 : Int) ≤ (k : Int)) = false := decide_eq_false y1
         have e0 : trX S (k + 1) = trX S k := by rw [trX_low S (k + 1) (by omega), trX_low S k (by omega)]
         have HE0 := Lib.hid e0
         clear hk1 e0
         go_wp2_with fail
         go_meet
         exact ⟨Lib.hid (by rw [HE0.out]; exact HO4.out), Lib.hid (grown_refl _ _)⟩
       case rest =>
        obtain ⟨HO5, HG5⟩ := hcut
        obtain ⟨v5, hv5⟩ : ∃ v5 : World, v5 = wc := ⟨_, rfl⟩
        subst hv5
        have hhg := HHG.out
        have hsz := HSZ.out
        have hsw := HSW.out
        have hsv := HSV.out
        have hs5 := HG5.out.size
        have hhl : h < W5.heap.size := by omega
        have hgl : g < W5.heap.size := by omega
        have hB5 := HG4.out.grown HG5.out (fun e => HNE.out (by injection e))
        have yc : v5.cell? ⟨g, 9, none⟩ = some (.slice NA k nc) := hB5.2.1 9
        have hN5 := HN4.out.away HG5.out hhl
        have hU5 := own_away HU4.out HG5.out hhg.1
        have hT5 : TermsAt v5 A3 t3 := HT4.out.1.kept HG5.out (fun _ a ha e => by have := HT4.out.2 a ha; injection e with e; omega)
        have hne5 : t3 ≠ [] → ∀ a, A3 = some a → W5.heap.size ≤ a.block ∧ some a.block ≠ (Value.slice NA k nc).ownBlock := fun _ a ha => ⟨by have := HT4.out.2 a ha; omega, fun e => by have := HT4.out.2 a ha; have := HNL.out _ e.symm; omega⟩
        have hbs : W5.heap.size ≤ v5.heap.size := by omega
        have hB52 := grown_to HB4.out HG5.out HHB.out
        have HB5 := Lib.hid hB5
        have HN5 := Lib.hid hN5
        have HU5 := Lib.hid hU5
        have HT5 := Lib.hid hT5
        have HNE5 := Lib.hid hne5
        have HBS := Lib.hid hbs
        have HB52 := Lib.hid hB52
        have HHL := Lib.hid hhl
        have HGL := Lib.hid hgl
        have HTL : Hid ((trR b a Q S k).length ≤ 1000) := Lib.hid (by rw [trR_len]; have := HKL.out; omega)
        clear hB5 hN5 hU5 hT5 hne5 hbs hB52 hhg hsz hsw hsv hs5 hhl hgl HG4 HN4 HU4 HT4 HB4 HO4
        go_wp2_with (at_builtin; refine app_node v5 rfl _ _ rfl W5.heap.size HN5.out rfl rfl HM3.out.symm HT5.out HNE5.out HTL.out HBS.out ?_; intro v6 w6 ho6 hb6 hg6 hob6; have hB6 := HB5.out.block (hb6.block g HGL.out) hb6.size; have t4 : w6.cell? ⟨g, 9, none⟩ = some (.slice NA k nc) := hB6.2.1 9; have tf4 := hB6.2.2; obtain ⟨A6, c6, e6⟩ := ho6.form1; rw [trR_len] at e6; subst e6)
        go_roundw
        case rel =>
         have hlw : w2.heap.size ≤ W5.heap.size := by have := HHB.out; have := HHL.out; omega
         refine ⟨k + 1, A6, c6, by go_num, by have := HKL.out; omega, hB6.set (k := 9) (by show 9 < 12; omega), ?_, ?_, ?_, below_set (HB52.out.trans (hb6.mono hlw)) HGB.out, ?_⟩
         ·exact (HO5.out.under hb6 (fun q e => by cases e; exact HHL.out)).other (k := 9) (fun e => HNE.out e.symm)
         ·rw [trR_succ, HND.out]
          exact ho6.store HGL.out
         ·exact (HU5.out.under hb6 (fun q e => by cases e; rw [HSZ.out]; exact Nat.lt_succ_self _)).store HHG.out.2
         ·have := hb6.size; have := HBS.out; simpa using by omega
        case measure => simp [intOf]; omega
  ·obtain rfl : k = S + 1 := by omega
   have HRX := Lib.hid (D2.out.keep HB.out)
   have HNI := Lib.hid HN.out.into.2
   have HLN := Lib.hid (trR_len b a Q S (S + 1))
   have HTX := Lib.hid (trX_all S)
   go_wp2_with (first
    | ((with_reducible show wpList _ _ _ (Oper.mk _ (.load 27 _) _ _ _ _ :: _) _ _); refine ld_netB1 HG.out rfl rfl _ rfl rfl ?_)
    | ((with_reducible show wpList _ _ _ (Oper.mk none (.store 27 _ _) _ _ _ _ :: _) _ _); refine st_netL HRX.out rfl (L := netL (d0, d1, d2, d3) (c0, c1, c2, c3) (S : Int) (.slice NA (S + 1) nc) (.slice (some ⟨h, 0, none⟩) S S) ((S : Int) + 1)) rfl rfl rfl _ _ rfl rfl rfl ?_; intro w9 hb9 hg9))
   obtain ⟨dsc, hd1, hd2⟩ := row_net
   refine bodyPost_ret (resCT rfl _ _ w9 (g := w.heap.size + 2) (v := .agg (netL (d0, d1, d2, d3) (c0, c1, c2, c3) (S : Int) (.slice NA (S + 1) nc) (.slice (some ⟨h, 0, none⟩) S S) ((S : Int) + 1)).toArray) rfl (res_box _ hb9 dsc hd1 hd2 size_net)) rfl ?_
   have hlt := HW2L.out
   have hlx : (trNx S).length = S := by rw [← trX_all, trX_len]
   have hO9 : Own w2.heap.size w9 (.slice (some ⟨h, 0, none⟩) S S) (trNx S) := own_away (HTX.out ▸ HO.out) hg9 (by omega)
   have hN9 : NodesF w.heap.size w9 NA (trNs b a Q S) := (HN.out.away hg9 (by have := HSZ.out; have := HHG.out; have := HHB.out; omega)).intoF.base HBW5.out.size
   have hll : (trNs b a Q S).length = S + 1 := HLN.out
   have hle : ∀ ts ∈ trNs b a Q S, ts.length ≤ 3 := fun ts hts => by
    unfold trNs at hts
    obtain ⟨k, -, rfl⟩ := List.mem_map.1 hts
    exact trNode_len _ _ _ _ _
   rw [HQ.out]
   refine ⟨NA, nc, some ⟨h, 0, none⟩, S, ?_, ⟨hN9, (IntsF.own hO9).base HW2.out.size, by show (trNs b a Q S).length ≤ _; omega, by show (trNx S).length ≤ _; omega, ?_, ⟨by show _ ≤ (S : Int); omega, by show (S : Int) ≤ _; omega⟩⟩, grown_to (below_then HW2.out HB.out) hg9 (by omega)⟩
   ·unfold NetD.lst
    simp only [hll, hlx]
    rfl
   ·exact fun ts hts => by have := hle ts hts; omega
end Go.Proofs.YtdiflpbioohddaaDoor
