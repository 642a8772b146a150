/- Several texts in one: Cp Dg Dh. -/
import Derived.Test.YtdiflpbioohddaaDoortTitoCn
import Derived.Test.YtdiflpbioohddaaDoortDe
import Derived.Test.YtdiflpbioohddaaDoortDf
set_option linter.unusedVariables false
set_option linter.unusedSimpArgs false
section
namespace Go.Proofs.YtdiflpbioohddaaDoor
open Go.RowKit
def fwI (n j : Nat) : Int := if j = n then 0 else 2 * (n : Int) - j
def laA (k : List Int) (u : Int) (n p : Nat) : List (Int × Int) := [(fwI n (n - p), u), ((n : Int) - p, -(k.getD (n - p - 1) 0))]
def laB (k : List Int) (u : Int) (n p : Nat) : List (Int × Int) := [(fwI n p, k.getD p 0), ((p : Int) + 1, u)]
def laC (v : List Int) (n i : Nat) : List (Int × Int) := (fwI n 0, v.getD 0 0) :: (List.range i).map fun (p : Nat) => (2 * (n : Int) + p + 1, v.getD (p + 1) 0)
def laNs (k v : List Int) (u : Int) (n : Nat) : List (List (Int × Int)) := (List.range n).map (laA k u n) ++ (List.range n).map (laB k u n) ++ [laC v n n]
def laNx (n : Nat) : List Int := (List.range n).map fun (p : Nat) => if p = 0 then fwI n 0 else 2 * (n : Int) + p
theorem fwI_in {n j : Nat} (h : j ≤ n) : 0 ≤ fwI n j ∧ fwI n j ≤ 2 * (n : Int) - j := by unfold fwI; split <;> omega
theorem getD_fits {c0 c1 c2 c3 : Int} {l : List Int} {p : Nat} (hp : p < l.length) (h : ∀ v ∈ l, fitsW c0 c1 c2 c3 v = true) : fitsW c0 c1 c2 c3 (l.getD p 0) = true := by
 rw [List.getD_eq_getElem?_getD, List.getElem?_eq_getElem hp]
 exact h _ (List.getElem_mem hp)
theorem la_ok {d0 d1 d2 d3 c0 c1 c2 c3 : Int} {k v : List Int} {n : Nat} (hd : okW d0 d1 d2 d3 = true) (hc : okW c0 c1 c2 c3 = true) (hk : k.length = n) (hv : v.length = n + 1) (hn : n ≤ 8) (fv : ∀ x ∈ v, fitsW c0 c1 c2 c3 x = true) (fk : ∀ x ∈ k, fitsW c0 c1 c2 c3 x = true ∧ fitsW c0 c1 c2 c3 (-x) = true) :
  netB d0 d1 d2 d3 c0 c1 c2 c3 (n : Int) (laNs k v (2 ^ c1.toNat) n) (laNx n) (3 * (n : Int) + 1) = true ∧ tinyN (laNs k v (2 ^ c1.toNat) n) (laNx n) := by
 have hxl : (laNx n).length = n := by unfold laNx; simp
 have hnl : (laNs k v (2 ^ c1.toNat) n).length = 2 * n + 1 := by unfold laNs; simp; omega
 have hfk : ∀ p, p < n → fitsW c0 c1 c2 c3 (k.getD p 0) = true ∧ fitsW c0 c1 c2 c3 (-(k.getD p 0)) = true := fun p hp => by
  rw [List.getD_eq_getElem?_getD, List.getElem?_eq_getElem (by omega)]
  exact fk _ (List.getElem_mem (by omega))
 have hcl : (laC v n n).length = n + 1 := by unfold laC; simp
 refine ⟨netB_mk hd hc (by rw [hxl]) (by rw [hxl]; omega) (by rw [hnl]; omega) (fun q ts hq => ?_) (fun x hx => ?_) (by rw [hnl]; omega), ?_⟩
 ·have hql := (List.getElem?_eq_some_iff.1 hq).1
  rw [hnl] at hql
  unfold laNs at hq
  by_cases h1 : q < n
  ·rw [List.append_assoc, List.getElem?_append_left (by simpa using h1), List.getElem?_map, List.getElem?_range h1] at hq
   injection hq with hq
   subst hq
   refine ⟨by unfold laA; simp, fun t ht => ?_⟩
   unfold laA at ht
   have hf := fwI_in (n := n) (j := n - q) (by omega)
   rcases List.mem_cons.1 ht with rfl | ht
   ·exact term_one (by show 0 ≤ fwI n (n - q) ∧ fwI n (n - q) ≤ _; omega) (.inr rfl)
   ·rw [List.mem_singleton.1 ht]
    exact term_one (by show 0 ≤ (n : Int) - q ∧ (n : Int) - q ≤ _; omega) (.inl (hfk (n - q - 1) (by omega)).2)
  ·by_cases h2 : q < 2 * n
   ·rw [List.append_assoc, List.getElem?_append_right (by simp; omega), List.getElem?_append_left (by simp; omega), List.getElem?_map, List.getElem?_range (by simp; omega)] at hq
    injection hq with hq
    subst hq
    refine ⟨by unfold laB; simp, fun t ht => ?_⟩
    rw [List.length_map, List.length_range] at ht
    unfold laB at ht
    have hf := fwI_in (n := n) (j := q - n) (by omega)
    rcases List.mem_cons.1 ht with rfl | ht
    ·exact term_one (by show 0 ≤ fwI n (q - n) ∧ fwI n (q - n) ≤ _; omega) (.inl (hfk (q - n) (by omega)).1)
    ·rw [List.mem_singleton.1 ht]
     exact term_one (by show 0 ≤ ((q - n : Nat) : Int) + 1 ∧ ((q - n : Nat) : Int) + 1 ≤ _; omega) (.inr rfl)
   ·obtain rfl : q = 2 * n := by omega
    have e : (2 * n - ((List.range n).map (laA k (2 ^ c1.toNat) n) ++ (List.range n).map (laB k (2 ^ c1.toNat) n)).length) = 0 := by simp; omega
    rw [List.getElem?_append_right (by simp; omega), e] at hq
    have hq : some (laC v n n) = some ts := hq
    injection hq with hq
    subst hq
    refine ⟨by rw [hcl]; omega, fun t ht => ?_⟩
    unfold laC at ht
    have hf := fwI_in (n := n) (j := 0) (by omega)
    rcases List.mem_cons.1 ht with rfl | ht
    ·exact term_one (by show 0 ≤ fwI n 0 ∧ fwI n 0 ≤ _; omega) (.inl (getD_fits (by omega) fv))
    ·obtain ⟨p, hp, rfl⟩ := List.mem_map.1 ht
     have hp := List.mem_range.1 hp
     exact term_one (by show 0 ≤ 2 * (n : Int) + p + 1 ∧ 2 * (n : Int) + p + 1 ≤ _; omega) (.inl (getD_fits (by omega) fv))
 ·unfold laNx at hx
  obtain ⟨p, hp, rfl⟩ := List.mem_map.1 hx
  have hp := List.mem_range.1 hp
  have hf := fwI_in (n := n) (j := 0) (by omega)
  rw [hnl]
  split <;> omega
 ·refine tiny_of (m := 9) (fun ts hts => ?_) (by rw [hnl, hxl]; omega)
  unfold laNs at hts
  rcases List.mem_append.1 hts with h | h
  ·rcases List.mem_append.1 h with h | h
   ·obtain ⟨p, -, rfl⟩ := List.mem_map.1 h
    unfold laA; simp
   ·obtain ⟨p, -, rfl⟩ := List.mem_map.1 h
    unfold laB; simp
  ·rw [List.mem_singleton.1 h, hcl]; omega
end Go.Proofs.YtdiflpbioohddaaDoor
end
section
namespace Go.Proofs.YtdiflpbioohddaaDoor
open Go.RowKit
set_option maxRecDepth 100000 in
set_option maxHeartbeats 2000000 in
theorem la_wrong (A B : Option Addr) (ca cb n : Nat) (k v : List Int) (c : Int × Int × Int × Int) (w : World) (hA : Ints w A k) (hB : Ints w B v) (ha : k.length = n) (hb : v.length = n + 1)
  (hc : okW c.1 c.2.1 c.2.2.1 c.2.2.2 = true) (hn : n ≤ 8) (fv : ∀ x ∈ v, fitsW c.1 c.2.1 c.2.2.1 c.2.2.2 x = true) (fk : ∀ x ∈ k, (fitsW c.1 c.2.1 c.2.2.1 c.2.2.2 x = true ∧ fitsW c.1 c.2.1 c.2.2.1 c.2.2.2 (-x) = true) ∧ -(2 ^ c.2.1.toNat) < x ∧ x < 2 ^ c.2.1.toNat) :
  Calls Tryd.prog 77 #[.slice A n ca, .slice B (n + 1) cb, wordV c.1 c.2.1 c.2.2.1 c.2.2.2] w fun e w' => e = .returned (.int .i64 0) ∧ Below w.heap.size w w' := by
 obtain ⟨V, hV⟩ : ∃ V, V = n + 1 := ⟨_, rfl⟩
 rw [← hV] at hb ⊢
 obtain ⟨c0, c1, c2, c3⟩ := c
 simp only at hc fv fk ⊢
 obtain ⟨o1, o2, o3, o4, -⟩ := okW_iff.1 hc
 have HC := Lib.hid hc
 have FB := Lib.hid fv
 have FA := Lib.hid fk
 have HLA := Lib.hid ha
 have HLB := Lib.hid hb
 have HA := Lib.hid hA
 have HB := Lib.hid hB
 have BX : Hid (∀ w', Below (w.alloc (.cells #[.int .i64 c0, .int .i64 c1, .int .i64 c2, .int .i64 c3] 23)).heap.size (w.alloc (.cells #[.int .i64 c0, .int .i64 c1, .int .i64 c2, .int .i64 c3] 23)) w' →
   w'.cell? ⟨w.heap.size, 0, none⟩ = some (.int .i64 c0) ∧ w'.cell? ⟨w.heap.size, 1, none⟩ = some (.int .i64 c1) ∧ w'.cell? ⟨w.heap.size, 2, none⟩ = some (.int .i64 c2) ∧ w'.cell? ⟨w.heap.size, 3, none⟩ = some (.int .i64 c3) ∧ Below w.heap.size w w') := fun w' h =>
  ⟨(h.cell (by simp)).trans (by simp [go_sem]), (h.cell (by simp)).trans (by simp [go_sem]), (h.cell (by simp)).trans (by simp [go_sem]), (h.cell (by simp)).trans (by simp [go_sem]), ((Below.refl _ _).alloc (Nat.le_refl _) _).trans (h.mono (by simp))⟩
 have x3 : decide ((8 : Int) < (n : Int)) = false := by simp; omega
 have x4 : IntKind.i64.wrap ((n : Int) + 1) = (V : Int) := (IntWalk.i64_in _ (by omega)).trans (by omega)
 obtain ⟨Q, hQ⟩ : ∃ Q, (2 : Int) ^ c1.toNat = Q := ⟨_, rfl⟩
 rw [hQ] at FA
 have q0 : 0 < Q := by rw [← hQ]; exact pow_pos' _
 have q1 : IntKind.i64.wrap ((2 : Int) ^ c1.toNat) = Q := by rw [← hQ]; exact IntWalk.i64_in _ (by have := pow_pos' c1.toNat; have := pow_62 (n := c1.toNat) (by omega); omega)
 have o5 : c1.toNat ≤ 61 := by omega
 have q3 : Q ≤ 8388608 := by rw [← hQ]; exact (unit_23 hc).2
 have q2 : wrap64 Q = Q := by unfold wrap64; omega
 have hV9 : V ≤ 9 := by omega
 clear hc fv fk ha hb hA hB hV
 go_enter Tryd.func77, Tryd.ntmps77
 have BY := BX
 go_wp2_with (go_at_call 67; with_reducible refine (fx_Valid_is (b := c0) (f := c1) (r := c2) (o := c3) HC.out _).mono ?_; rintro e w2 ⟨rfl, hb1⟩; obtain ⟨z1, z2, z3, z4, hb⟩ := BX.out _ hb1)
 clear z1 z2 z3 z4 BX
 have HBB := Lib.hid hb1
 have HB0 := Lib.hid hb
 clear hb1 hb
 have BX : Hid (∀ w', Below w2.heap.size w2 w' → w'.cell? ⟨w.heap.size, 0, none⟩ = some (.int .i64 c0) ∧ w'.cell? ⟨w.heap.size, 1, none⟩ = some (.int .i64 c1) ∧ w'.cell? ⟨w.heap.size, 2, none⟩ = some (.int .i64 c2) ∧ w'.cell? ⟨w.heap.size, 3, none⟩ = some (.int .i64 c3) ∧ Below w.heap.size w w') := fun w' h => BY.out w' (below_then HBB.out h)
 clear HBB BY x3 x4
 go_loopw [29] (fun i wr => ∃ k : Nat, k ≤ V ∧ i = .int .i64 k ∧ Below w2.heap.size w2 wr) (fun i _ => V - (intOf i).toNat)
 case atStart => exact ⟨0, Nat.zero_le _, rfl, Below.refl _ _⟩
 case round =>
  obtain ⟨k, hk, rfl, hb⟩ := hrel
  obtain ⟨z1, z2, z3, z4, hbo⟩ := BX.out _ hb
  by_cases hlt : k < V
  ·obtain ⟨ad, x, rfl, hba, hx, cx, i1, i2⟩ := (HB.out.grow hbo).at_ (k := k) (by rw [HLB.out]; exact hlt)
   have HFX := Lib.hid (FB.out x (List.mem_of_getElem? hx))
   have HBK := Lib.hid hb
   have y1 : (0 : Int) ≤ (k : Int) := by omega
   have y2 : (k : Int) < (V : Int) := by omega
   clear hx hb
   go_wp2_with (first | (go_at_call 40; refine (fx_Fits _ _ _ _ _ _).mono ?_; rintro e w5 ⟨rfl, hb5⟩; rw [HFX.out]))
   go_roundw
   case rel => exact ⟨k + 1, by omega, by go_num, below_then HBK.out hb5⟩
   case measure => simp [intOf]; omega
  ·obtain rfl : k = V := by omega
   have HBK := Lib.hid hb
   clear hb
   go_wp2_with fail
   clear z1 z2 z3 z4 hbo
   obtain ⟨wo, rfl⟩ : ∃ wo : World, wo = wr := ⟨_, rfl⟩
   go_loopw [40] (fun i wr => ∃ k : Nat, k ≤ n ∧ i = .int .i64 k ∧ Below w2.heap.size w2 wr) (fun i _ => n - (intOf i).toNat)
   case atStart => exact ⟨0, Nat.zero_le _, rfl, HBK.out⟩
   case round =>
    obtain ⟨j, hj, rfl, hb⟩ := hrel
    obtain ⟨z1, z2, z3, z4, hbo⟩ := BX.out _ hb
    by_cases hlt : j < n
    ·obtain ⟨ad, x, rfl, hba, hx, cx, i1, i2⟩ := (HA.out.grow hbo).at_ (k := j) (by rw [HLA.out]; exact hlt)
     have HFX := Lib.hid (FA.out x (List.mem_of_getElem? hx)).1
     have hx24 := fits_24 HFX.out.1
     have HBK := Lib.hid hb
     have y1 : (0 : Int) ≤ (j : Int) := by omega
     have y2 : (j : Int) < (n : Int) := by omega
     clear hx hb
     go_wp2_with (first
      | (go_at_call 40; with_reducible refine (fx_Fits c0 c1 c2 c3 x _).mono ?_; rintro e w5 ⟨rfl, hb5⟩; rw [HFX.out.1]; have hb6 := below_then HBK.out hb5; obtain ⟨y1, y2, y3, y4, _⟩ := BX.out _ hb6)
      | (go_at_call 40; with_reducible refine (fx_Fits c0 c1 c2 c3 (-x) _).mono ?_; rintro e w6 ⟨rfl, hb7⟩; rw [HFX.out.2]; have hb8 := below_then hb6 hb7))
     go_roundw
     case rel => exact ⟨j + 1, by omega, by go_num, hb8⟩
     case measure => simp [intOf]; omega
    ·obtain rfl : j = n := by omega
     have HBK := Lib.hid hb
     clear hb
     go_wp2_with fail
     clear z1 z2 z3 z4 hbo
     obtain ⟨wp, rfl⟩ : ∃ wp : World, wp = wr := ⟨_, rfl⟩
     go_loopw [58] (fun i wr => ∃ k : Nat, k ≤ j ∧ i = .int .i64 k ∧ Below w2.heap.size w2 wr) (fun i _ => j - (intOf i).toNat)
     case atStart => exact ⟨0, Nat.zero_le _, rfl, HBK.out⟩
     case round =>
      obtain ⟨i, hi, rfl, hb⟩ := hrel
      obtain ⟨z1, z2, z3, z4, hbo⟩ := BX.out _ hb
      by_cases hlt : i < j
      ·obtain ⟨ad, x, rfl, hba, hx, cx, i1, i2⟩ := (HA.out.grow hbo).at_ (k := i) (by rw [HLA.out]; exact hlt)
       have hxq := (FA.out x (List.mem_of_getElem? hx)).2
       have HBK := Lib.hid hb
       have y1 : (0 : Int) ≤ (i : Int) := by omega
       have y2 : (i : Int) < (j : Int) := by omega
       have y3 : ¬ Q ≤ max x (-x) := by omega
       have y4 : decide (Q ≤ max x (-x)) = false := decide_eq_false y3
       have y5 : IntKind.i64.wrap (-x) = -x := IntWalk.i64_in _ (by omega)
       clear hx hb
       go_wp2_with fail
       go_roundw
       case rel => exact ⟨i + 1, by omega, by go_num, HBK.out⟩
       case measure => simp [intOf]; omega
      ·obtain rfl : i = j := by omega
       go_wp2_with fail
       go_ret
       exact ⟨rfl, hbo⟩
end Go.Proofs.YtdiflpbioohddaaDoor
end
section
namespace Go.Proofs.YtdiflpbioohddaaDoor
open Go.RowKit
def NdA (X : List Nat) (base : Nat) (w : World) (v : Value) (ns : List (List (Int × Int))) : Prop :=
 ∃ cs : List Value, w.ownsRow base 36 1 v ns.length cs ∧ (∀ x, v.ownBlock = some x → x ∉ X) ∧ ∀ (k : Nat) l, ns[k]? = some l → ∃ C c, cs[k]? = some (.slice C l.length c) ∧ TermsAt w C l ∧ (l ≠ [] → ∀ a, C = some a → (some a.block ≠ v.ownBlock ∧ base ≤ a.block) ∧ a.block ∉ X)
theorem NdA.nil {X : List Nat} {base : Nat} {w : World} : NdA X base w (.slice none 0 0) [] := ⟨[], World.ownsRow_nil _ _ _ _, fun _ h => (by cases h), fun k s h => by simp at h⟩
theorem NdA.grow {X : List Nat} {base : Nat} {w w' : World} {v : Value} {ns : List (List (Int × Int))} (h : NdA X base w v ns) (hb : Below w.heap.size w w') : NdA X base w' v ns := by
 obtain ⟨cs, h1, h2, h3⟩ := h
 refine ⟨cs, own_grow h1 hb, h2, fun k s hk => ?_⟩
 obtain ⟨C, c, c0, hi, hn⟩ := h3 k s hk
 exact ⟨C, c, c0, hi.grow hb, hn⟩
theorem NdA.away {X : List Nat} {base y : Nat} {w w' : World} {v : Value} {ns : List (List (Int × Int))} (h : NdA X base w v ns) (hg : w.grownBy w' (some y)) (hy : y ∈ X) : NdA X base w' v ns := by
 obtain ⟨cs, h1, h2, h3⟩ := h
 refine ⟨cs, h1.kept hg (.inr (fun e => h2 _ e hy)), h2, fun k s hk => ?_⟩
 obtain ⟨C, c, c0, hi, hn⟩ := h3 k s hk
 exact ⟨C, c, c0, hi.kept hg (fun hl a ha e => (hn hl a ha).2 (by injection e with e; rw [e]; exact hy)), hn⟩
theorem NdA.past {X : List Nat} {base y : Nat} {w w' : World} {v : Value} {ns : List (List (Int × Int))} (h : NdA X base w v ns) (hg : w.grownBy w' (some y)) (hy : y < base) : NdA X base w' v ns := by
 obtain ⟨cs, h1, h2, h3⟩ := h
 refine ⟨cs, h1.kept hg (.inr (fun e => by have := (h1.lt _ e).1; omega)), h2, fun k s hk => ?_⟩
 obtain ⟨C, c, c0, hi, hn⟩ := h3 k s hk
 exact ⟨C, c, c0, hi.kept hg (fun hl a ha e => by injection e with e; have := (hn hl a ha).1.2; omega), hn⟩
theorem NdA.sub {X Y : List Nat} {base : Nat} {w : World} {v : Value} {ns : List (List (Int × Int))} (h : NdA X base w v ns) (hs : ∀ y ∈ Y, y ∈ X) : NdA Y base w v ns := by
 obtain ⟨cs, h1, h2, h3⟩ := h
 refine ⟨cs, h1, fun x e hx => h2 x e (hs x hx), fun k s hk => ?_⟩
 obtain ⟨C, c, c0, hi, hn⟩ := h3 k s hk
 exact ⟨C, c, c0, hi, fun hl a ha => ⟨(hn hl a ha).1, fun hx => (hn hl a ha).2 (hs _ hx)⟩⟩
theorem NdA.more {X : List Nat} {base y : Nat} {w : World} {v : Value} {ns : List (List (Int × Int))} (h : NdA X base w v ns) (hy : w.heap.size ≤ y) : NdA (y :: X) base w v ns := by
 obtain ⟨cs, h1, h2, h3⟩ := h
 refine ⟨cs, h1, fun x e hx => ?_, fun k s hk => ?_⟩
 ·rcases List.mem_cons.1 hx with rfl | hx
  ·have := (h1.lt _ e).2; omega
  ·exact h2 x e hx
 ·obtain ⟨C, c, c0, hi, hn⟩ := h3 k s hk
  refine ⟨C, c, c0, hi, fun hl a ha => ⟨(hn hl a ha).1, fun hx => ?_⟩⟩
  rcases List.mem_cons.1 hx with e | hx
  ·have := hi.block hl ha; omega
  ·exact (hn hl a ha).2 hx
theorem NdA.into {X : List Nat} {base n c : Nat} {w : World} {A : Option Addr} {ns : List (List (Int × Int))} (h : NdA X base w (.slice A n c) ns) : n = ns.length ∧ NodesAt w A ns := by
 obtain ⟨cs, h1, -, h3⟩ := h
 obtain ⟨A', c', e, -⟩ := own_form h1
 injection e with e1 e2 e3
 refine ⟨e2, fun k l hk => ?_⟩
 obtain ⟨C, d, c0, hi, _⟩ := h3 k l hk
 subst e2
 obtain ⟨g, e0, hg, d0⟩ := own_cells h1 c0
 exact ⟨_, C, d, e0, hg, by rw [add_cellsB]; exact d0, hi⟩
theorem NdA.intoF {X : List Nat} {base n c : Nat} {w : World} {A : Option Addr} {ns : List (List (Int × Int))} (h : NdA X base w (.slice A n c) ns) : NodesF base w A ns := by
 obtain ⟨cs, h1, -, h3⟩ := h
 obtain ⟨A', c', e, -⟩ := own_form h1
 injection e with e1 e2 e3
 subst e2
 intro k l hk
 obtain ⟨C, d, c0, hi, hq⟩ := h3 k l hk
 obtain ⟨g, e0, hg, d0⟩ := own_cells h1 c0
 refine ⟨_, C, d, e0, ?_, hg, by rw [add_cellsB]; exact d0, hi, fun hl a ha => (hq hl a ha).1.2⟩
 subst e0
 exact (h1.lt g rfl).1
theorem NdA.form {X : List Nat} {base : Nat} {w : World} {v : Value} {ns : List (List (Int × Int))} (h : NdA X base w v ns) : ∃ A c, v = .slice A ns.length c := by
 obtain ⟨cs, h1, -, -⟩ := h
 obtain ⟨A, c, e, _⟩ := own_form h1
 exact ⟨A, c, e⟩
theorem NdA.lt {X : List Nat} {base : Nat} {w : World} {v : Value} {ns : List (List (Int × Int))} (h : NdA X base w v ns) : ∀ b, v.ownBlock = some b → (base ≤ b ∧ b < w.heap.size) ∧ b ∉ X := fun b hb => by
 obtain ⟨cs, h1, h2, _⟩ := h
 exact ⟨h1.lt b hb, h2 b hb⟩
theorem app_ndA {ops : Array Oper} {rest : List Oper} {o : Oper} {a : Act} {Q : Exit → Act → World → Prop} (W : World) (hgd : o.guard = none) (s x : Operand) (ho : o.op = .call { callee := .builtin .append, args := #[s, x], argTypes := #[24, 24] })
  (X : List Nat) (base : Nat) {v : Value} {ll : List (List (Int × Int))} {l : List (Int × Int)} {n : Nat} {C : Option Addr} {c p : Nat} (hown : NdA X base W v ll) (hs : a.eval s = v) (hx : a.eval x = .slice (some ⟨p, 0, none⟩) 1 1) (hp : W.cell? ⟨p, 0, none⟩ = some (.slice C n c)) (hln : l.length = n) (hC : TermsAt W C l) (hne : l ≠ [] → ∀ a, C = some a → (some a.block ≠ v.ownBlock ∧ base ≤ a.block) ∧ a.block ∉ X)
  (hn : ll.length ≤ 1000) (hbase : base ≤ W.heap.size) (hX : ∀ x ∈ X, x < W.heap.size)
  (h : ∀ v' w', NdA X base w' v' (ll ++ [l]) → W.grownBy w' v.ownBlock → wpList Tryd.prog ops Q rest (a.put o.dst v') w') :
  wpList Tryd.prog ops Q (o :: rest) a W := by
 subst hln
 obtain ⟨i0, hi, hz0, hz1, hz2⟩ := info_parts info_node
 obtain ⟨cs, hr, hv, hcs⟩ := hown
 obtain ⟨v', w', hrun, hr', hg, _, hob⟩ := run_append_own_at (P := Tryd.prog) W base 24 o.type 36 i0 _ 1 24 Tryd.underlying24 hi hz0 hz1 hz2 rfl (by decide) v ll.length cs hr ⟨p, 0, none⟩ 1 1 [.slice C l.length c] rfl
  (fun j u hu => by
   rw [add_cellsB]
   match j, hu with
   | 0, hu => simp at hu; subst hu; exact hp)
  (fun u hu => by simp at hu; subst hu; rfl) (by unfold maxLen; omega) (by omega) hbase
 refine wpList_plain hgd fun K hK => ?_
 unfold Oper.wp execOp
 simp only [ho, resolve, invoke, builtin, Sem.run_bind, Sem.run_pure, Result.andThen_ok, List.map_toArray, List.map_cons, List.map_nil, hs, hx, hrun]
 refine hK _ _ (h v' w' ?_ hg)
 have keep : ∀ (C : Option Addr) (l : List (Int × Int)), TermsAt W C l → (l ≠ [] → ∀ a, C = some a → (some a.block ≠ v.ownBlock ∧ base ≤ a.block) ∧ a.block ∉ X) → TermsAt w' C l ∧ (l ≠ [] → ∀ a, C = some a → (some a.block ≠ v'.ownBlock ∧ base ≤ a.block) ∧ a.block ∉ X) := fun C l hI hn => by
  refine ⟨hI.kept hg (fun hl a ha => (hn hl a ha).1.1), fun hl a ha => ⟨⟨fun e => ?_, (hn hl a ha).1.2⟩, (hn hl a ha).2⟩⟩
  rcases hob with h1 | h1
  ·exact (hn hl a ha).1.1 (e.trans h1)
  ·rw [h1] at e
   injection e with e
   have := hI.block hl ha
   omega
 refine ⟨cs ++ [.slice C l.length c], by rw [List.length_append]; exact hr', fun y hy hm => ?_, fun k s hk => ?_⟩
 ·rcases hob with h1 | h1
  ·exact hv y (h1.symm.trans hy) hm
  ·rw [h1] at hy
   injection hy with hy
   have := hX y hm
   omega
 have hlen := hr.1
 rw [List.getElem?_append] at hk
 split at hk
 ·rename_i hlt
  obtain ⟨C', c', c0, hI, hn'⟩ := hcs k s hk
  obtain ⟨k1, k2⟩ := keep C' _ hI hn'
  refine ⟨C', c', ?_, k1, k2⟩
  rw [List.getElem?_append_left (by omega)]; assumption
 ·rename_i hlt
  have hk0 : k = ll.length := by
   rcases Nat.lt_or_ge (k - ll.length) 1 with h | h
   ·omega
   ·rw [List.getElem?_eq_none (by simpa using h)] at hk; cases hk
  subst hk0
  simp at hk
  subst hk
  obtain ⟨k1, k2⟩ := keep C _ hC hne
  refine ⟨C, c, ?_, k1, k2⟩
  rw [List.getElem?_append_right (by omega), show ll.length - cs.length = 0 by omega]; rfl
theorem OwnTm.some {base : Nat} {w : World} {v : Value} {ts : List (Int × Int)} (h : OwnTm base w v ts) (hl : 0 < ts.length) : ∃ q c, v = .slice (some ⟨q, 0, none⟩) ts.length c := by
 obtain ⟨h1, h2 | ⟨g, cap, cur, hv, -⟩⟩ := h.1
 ·omega
 ·exact ⟨g, cap, hv⟩
theorem OwnTm.apart {base : Nat} {w w' : World} {v : Value} {ts : List (Int × Int)} {r : Option Nat} (h : OwnTm base w v ts) (hg : w.grownBy w' r) (hne : v.ownBlock ≠ r) : OwnTm base w' v ts := ⟨h.1.kept hg (.inr hne), h.2⟩
theorem tm_lit {b : Nat} {w : World} {x y : Int} (h1 : I64 x) (h2 : I64 y) (hb : b ≤ w.heap.size) : OwnTm b (w.alloc (.cells #[.int .i64 x, .int .i64 y] 80)) (.slice (some ⟨w.heap.size, 0, none⟩) 1 1) [(x, y)] :=
 OwnTm.base (base := w.heap.size) ⟨World.ownsRow_lit w #[.int .i64 x, .int .i64 y] 1 (Nat.le_refl _) (by unfold maxLen; omega) (by simp), fun t ht => by rw [List.mem_singleton.1 ht]; exact ⟨h1, h2⟩⟩ hb
structure LatS (B g h f bk q n V : Nat) (d c : Int × Int × Int × Int) (out : Int) (w0 w : World) (NA : Option Addr) (nn nc lt tn lc : Nat) (fw bl nx : List Int) (ns : List (List (Int × Int))) (ts : List (Int × Int)) : Prop where
 bg : Box w g (netL d c (n : Int) (.slice NA nn nc) (.slice (some ⟨h, 0, none⟩) n n) out)
 bq : Box w q [.slice (some ⟨lt, 0, none⟩) tn lc]
 ox : Own B w (.slice (some ⟨h, 0, none⟩) n n) nx
 ob : Own B w (.slice (some ⟨bk, 0, none⟩) V V) bl
 of : Own B w (.slice (some ⟨f, 0, none⟩) V V) fw
 nd : NdA [lt, g, h, f, bk, q] B w (.slice NA nn nc) ns
 ot : OwnTm B w (.slice (some ⟨lt, 0, none⟩) tn lc) ts
 ap : [lt, g, h, f, bk, q].Nodup
 ge : B ≤ g ∧ B ≤ q
 be : Below B w0 w
 ln : ns.length = nn
 le : ts.length = tn
section
variable {B g h f bk q n V : Nat} {d c : Int × Int × Int × Int} {out : Int} {w0 w w' : World} {NA : Option Addr} {nn nc lt tn lc : Nat} {fw bl nx : List Int} {ns : List (List (Int × Int))} {ts : List (Int × Int)}
theorem LatS.grow (hl : LatS B g h f bk q n V d c out w0 w NA nn nc lt tn lc fw bl nx ns ts) (hB : B ≤ w.heap.size) (hb : Below w.heap.size w w') : LatS B g h f bk q n V d c out w0 w' NA nn nc lt tn lc fw bl nx ns ts :=
 ⟨hl.bg.keep hb, hl.bq.keep hb, hl.ox.grow hb, hl.ob.grow hb, hl.of.grow hb, hl.nd.grow hb, hl.ot.grow hb, hl.ap, hl.ge, hl.be.trans (hb.mono hB), hl.ln, hl.le⟩
theorem LatS.ne (hl : LatS B g h f bk q n V d c out w0 w NA nn nc lt tn lc fw bl nx ns ts) : (lt ≠ g ∧ lt ≠ h ∧ lt ≠ f ∧ lt ≠ bk ∧ lt ≠ q) ∧ (g ≠ h ∧ g ≠ f ∧ g ≠ bk ∧ g ≠ q) ∧ (h ≠ f ∧ h ≠ bk ∧ h ≠ q) ∧ (f ≠ bk ∧ f ≠ q) ∧ bk ≠ q := by
 have := hl.ap
 simp only [List.nodup_cons, List.mem_cons, List.not_mem_nil, or_false, not_or, List.nodup_nil, and_true, not_false_eq_true] at this
 obtain ⟨⟨a1, a2, a3, a4, a5⟩, ⟨b1, b2, b3, b4⟩, ⟨c1, c2, c3⟩, ⟨d1, d2⟩, e1⟩ := this
 exact ⟨⟨a1, a2, a3, a4, a5⟩, ⟨b1, b2, b3, b4⟩, ⟨c1, c2, c3⟩, ⟨d1, d2⟩, e1⟩
theorem LatS.low (hl : LatS B g h f bk q n V d c out w0 w NA nn nc lt tn lc fw bl nx ns ts) : ∀ x ∈ [lt, g, h, f, bk, q], x < w.heap.size := fun x hx => by
 simp only [List.mem_cons, List.not_mem_nil, or_false] at hx
 rcases hx with rfl | rfl | rfl | rfl | rfl | rfl
 ·exact (hl.ot.1.lt _ rfl).2
 ·exact hl.bg.1
 ·exact hl.ox.block.2
 ·exact hl.of.block.2
 ·exact hl.ob.block.2
 ·exact hl.bq.1
theorem own_far {b y p m k : Nat} {w w' : World} {l : List Int} (h : Own b w (.slice (some ⟨p, 0, none⟩) m k) l) (hg : w.grownBy w' (some y)) (hne : p ≠ y) : Own b w' (.slice (some ⟨p, 0, none⟩) m k) l := ⟨h.1.kept hg (.inr (fun e => hne (by injection e))), h.2⟩
theorem LatS.setB (hl : LatS B g h f bk q n V d c out w0 w NA nn nc lt tn lc fw bl nx ns ts) (i : Nat) {y : Int} (hy : I64 y) : LatS B g h f bk q n V d c out w0 (w.setCell ⟨bk, i, none⟩ (.int .i64 y)) NA nn nc lt tn lc fw (bl.set i y) nx ns ts := by
 obtain ⟨⟨a1, a2, a3, a4, a5⟩, ⟨b1, b2, b3, b4⟩, ⟨c1, c2, c3⟩, ⟨d1, d2⟩, e1⟩ := hl.ne
 have hg := grown_set (k := i) (u := .int .i64 y) (grown_refl w (some bk))
 refine ⟨hl.bg.past (fun e => b3 e.symm), hl.bq.past e1, own_far hl.ox hg c2, hl.ob.set i hy, own_far hl.of hg d1, hl.nd.away hg (by simp), hl.ot.apart hg (fun e => a4 (by injection e)), hl.ap, hl.ge, below_set hl.be hl.ob.block.1, hl.ln, hl.le⟩
theorem LatS.setX (hl : LatS B g h f bk q n V d c out w0 w NA nn nc lt tn lc fw bl nx ns ts) (i : Nat) {y : Int} (hy : I64 y) : LatS B g h f bk q n V d c out w0 (w.setCell ⟨h, i, none⟩ (.int .i64 y)) NA nn nc lt tn lc fw bl (nx.set i y) ns ts := by
 obtain ⟨⟨a1, a2, a3, a4, a5⟩, ⟨b1, b2, b3, b4⟩, ⟨c1, c2, c3⟩, ⟨d1, d2⟩, e1⟩ := hl.ne
 have hg := grown_set (k := i) (u := .int .i64 y) (grown_refl w (some h))
 refine ⟨hl.bg.past (fun e => b1 e.symm), hl.bq.past c3, hl.ox.set i hy, own_far hl.ob hg (fun e => c2 e.symm), own_far hl.of hg (fun e => c1 e.symm), hl.nd.away hg (by simp), hl.ot.apart hg (fun e => a2 (by injection e)), hl.ap, hl.ge, below_set hl.be hl.ox.block.1, hl.ln, hl.le⟩
theorem LatS.node (hl : LatS B g h f bk q n V d c out w0 w NA nn nc lt tn lc fw bl nx ns ts) {t : List (Int × Int)} {NA' : Option Addr} {nc' : Nat} (hd : NdA [lt, g, h, f, bk, q] B w' (.slice NA' (nn + 1) nc') (ns ++ [t])) (hg : w.grownBy w' (Value.slice NA nn nc).ownBlock) (hB : B ≤ w.heap.size) :
  LatS B g h f bk q n V d c out w0 (w'.setCell ⟨g, 9, none⟩ (.slice NA' (nn + 1) nc')) NA' (nn + 1) nc' lt tn lc fw bl nx (ns ++ [t]) ts := by
 obtain ⟨⟨a1, a2, a3, a4, a5⟩, ⟨b1, b2, b3, b4⟩, ⟨c1, c2, c3⟩, ⟨d1, d2⟩, e1⟩ := hl.ne
 have hN : ∀ y ∈ [lt, g, h, f, bk, q], some y ≠ (Value.slice NA nn nc).ownBlock := fun y hy e => (hl.nd.lt y e.symm).2 hy
 have hs := grown_set (k := 9) (u := .slice NA' (nn + 1) nc') (grown_refl w' (some g))
 have hbg : Box w' g _ := hl.bg.grown hg (hN g (by simp))
 refine ⟨?_, (hl.bq.grown hg (hN q (by simp))).past b4, own_far ⟨hl.ox.1.kept hg (.inr (hN h (by simp))), hl.ox.2⟩ hs (fun e => b1 e.symm), own_far ⟨hl.ob.1.kept hg (.inr (hN bk (by simp))), hl.ob.2⟩ hs (fun e => b3 e.symm), own_far ⟨hl.of.1.kept hg (.inr (hN f (by simp))), hl.of.2⟩ hs (fun e => b2 e.symm), ?_, (hl.ot.apart hg (hN lt (by simp))).apart hs (fun e => a1 (by injection e)), hl.ap, hl.ge, below_set (hl.be.grown hg hB (fun y e => (hl.nd.lt y e).1.1)) hl.ge.1, by rw [List.length_append, hl.ln]; rfl, hl.le⟩
 ·exact hbg.set (k := 9) (by show 9 < 12; omega)
 ·exact hd.away hs (by simp)
theorem LatS.term (hl : LatS B g h f bk q n V d c out w0 w NA nn nc lt tn lc fw bl nx ns ts) {t : Int × Int} {lt' lc' : Nat} (ht : OwnTm B w' (.slice (some ⟨lt', 0, none⟩) (tn + 1) lc') (ts ++ [t])) (hg : w.grownBy w' (some lt)) (hv : lt' = lt ∨ lt' = w.heap.size) (hB : B ≤ w.heap.size) :
  LatS B g h f bk q n V d c out w0 (w'.setCell ⟨q, 0, none⟩ (.slice (some ⟨lt', 0, none⟩) (tn + 1) lc')) NA nn nc lt' (tn + 1) lc' fw bl nx ns (ts ++ [t]) := by
 obtain ⟨⟨a1, a2, a3, a4, a5⟩, ⟨b1, b2, b3, b4⟩, ⟨c1, c2, c3⟩, ⟨d1, d2⟩, e1⟩ := hl.ne
 have hs := grown_set (k := 0) (u := .slice (some ⟨lt', 0, none⟩) (tn + 1) lc') (grown_refl w' (some q))
 have lg := hl.bg.1
 have lq := hl.bq.1
 have lh := hl.ox.block.2
 have lb := hl.ob.block.2
 have lf := hl.of.block.2
 have n1 : lt' ≠ g ∧ lt' ≠ h ∧ lt' ≠ f ∧ lt' ≠ bk ∧ lt' ≠ q := by rcases hv with rfl | rfl <;> omega
 obtain ⟨m1, m2, m3, m4, m5⟩ := n1
 refine ⟨(hl.bg.grown hg (fun e => a1 (by injection e with e; exact e.symm))).past (fun e => b4 e.symm), ?_, own_far (own_far hl.ox hg (fun e => a2 e.symm)) hs c3, own_far (own_far hl.ob hg (fun e => a4 e.symm)) hs e1, own_far (own_far hl.of hg (fun e => a3 e.symm)) hs d2, ?_, ?_, ?_, hl.ge, below_set (hl.be.grown hg hB (fun y e => by injection e with e; rw [← e]; exact (hl.ot.1.lt lt rfl).1)) hl.ge.2, hl.ln, by rw [List.length_append, hl.le]; rfl⟩
 ·exact (hl.bq.grown hg (fun e => a5 (by injection e with e; exact e.symm))).set (k := 0) (by simp)
 ·have h1 := ((hl.nd.more (y := w.heap.size) (Nat.le_refl _)).away hg (by simp)).away hs (by simp)
  refine h1.sub fun y hy => ?_
  rcases List.mem_cons.1 hy with rfl | hy
  ·rcases hv with rfl | rfl <;> simp
  ·exact List.mem_cons_of_mem _ (List.mem_cons_of_mem _ hy)
 ·exact ht.apart hs (fun e => m5 (by injection e))
 ·have := hl.ap
  simp only [List.nodup_cons, List.mem_cons, List.not_mem_nil, or_false, not_or, List.nodup_nil, and_true, not_false_eq_true] at this ⊢
  exact ⟨⟨m1, m2, m3, m4, m5⟩, this.2⟩
end
end Go.Proofs.YtdiflpbioohddaaDoor
end
