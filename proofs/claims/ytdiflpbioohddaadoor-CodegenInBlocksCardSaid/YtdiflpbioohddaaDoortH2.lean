/- The walk of FormOne of package direct. -/
import Derived.Test.YtdiflpbioohddaaDoortS31toH1
import Derived.StillTailTactics
set_option linter.unusedVariables false
set_option linter.unusedSimpArgs false
namespace Go.Proofs.YtdiflpbioohddaaDoor
open Go.RowKit
theorem own_made {w : World} {base S g : Nat} (hg : g = w.heap.size) (hb : base ≤ w.heap.size) (hS : S ≤ 100000000) : Own base (w.alloc (.cells (madeCells #[Value.int .i64 0] S) 3)) (.slice (some ⟨g, 0, none⟩) S S) (List.replicate S 0) := by
 subst hg
 refine ⟨?_, fun q hq => by rw [List.eq_of_mem_replicate hq]; exact ⟨by decide, by decide⟩⟩
 have h := World.ownsRow_lit w (e := 3) (base := base) (size := 1) (madeCells #[Value.int .i64 0] S) S hb (by unfold maxLen; omega) (by rw [size_madeCells]; omega)
 have e := zeros_cells S
 rw [Nat.mul_one] at e
 rw [List.length_replicate]
 rw [show (madeCells #[Value.int .i64 0] S).toList = (List.replicate S (0 : Int)).map (Value.int .i64) from e] at h
 exact h
theorem nodes_two {w : World} {A2 A3 : Option Addr} {c2 c3 n2 n3 : Nat} {r2 r3 : List (Int × Int)} {t : TypeId} (h2 : TermsAt (w.alloc (.cells #[.slice A2 n2 c2, .slice A3 n3 c3] t)) A2 r2) (h3 : TermsAt (w.alloc (.cells #[.slice A2 n2 c2, .slice A3 n3 c3] t)) A3 r3) (l2 : r2.length = n2) (l3 : r3.length = n3) :
  NodesAt (w.alloc (.cells #[.slice A2 n2 c2, .slice A3 n3 c3] t)) (some ⟨w.heap.size, 0, none⟩) [r2, r3] := fun k ts hk => by
 subst l2 l3
 match k, hk with
 | 0, hk =>
  simp at hk; subst hk
  exact ⟨_, A2, c2, rfl, by simp, by simp [go_sem, Addr.add], h2⟩
 | 1, hk =>
  simp at hk; subst hk
  exact ⟨_, A3, c3, rfl, by simp, by simp [go_sem, Addr.add], h3⟩
theorem dr_delay_if (base h I S : Nat) (L : List Int) (first source : Int) (w : World) (ho : Own base w (.slice (some ⟨h, 0, none⟩) S S) L) (hl : L.length = S) (hm : I ≤ S) (hN : S ≤ 1000) (hs : I64 source) :
  Calls Tryd.prog 65 #[.slice (if S = I then some ⟨h, 0, none⟩ else some ⟨h, I, none⟩) (S - I) (S - I), .int .i64 first, .int .i64 source] w fun e w' => e = .returned (.tuple #[]) ∧ Own base w' (.slice (some ⟨h, 0, none⟩) S S) (dlF L I first source (S - I)) ∧ w.grownBy w' (some h) := by
 by_cases e : S = I
 ·rw [if_pos e]
  have := dr_delay base h 0 (S - I) S S (S - I) L first source w ho hl (by omega) hN hs
  rw [show S - I = 0 by omega] at this ⊢
  rw [dlF_zero] at this ⊢
  exact this
 ·rw [if_neg e]
  exact dr_delay base h I (S - I) S S (S - I) L first source w ho hl (by omega) hN hs
def RetNet (w : World) (d c : Int × Int × Int × Int) (st : Int) (ns : List (List (Int × Int))) (nx : List Int) (out E : Int) (e : Ending) (w' : World) : Prop :=
 ∃ NA nc XA xc, e = .returned (.tuple #[netV d.1 d.2.1 d.2.2.1 d.2.2.2 c.1 c.2.1 c.2.2.1 c.2.2.2 st NA ns.length nc XA nx.length xc out, .int .i64 E]) ∧ NodesAt w' NA ns ∧ Ints w' XA nx ∧ Below w.heap.size w w'
def RetNetF (w : World) (d c : Int × Int × Int × Int) (st : Int) (ns : List (List (Int × Int))) (nx : List Int) (out E : Int) (e : Ending) (w' : World) : Prop :=
 ∃ NA nc XA xc, e = .returned (.tuple #[netV d.1 d.2.1 d.2.2.1 d.2.2.2 c.1 c.2.1 c.2.2.1 c.2.2.2 st NA ns.length nc XA nx.length xc out, .int .i64 E]) ∧
  (∀ (k : Nat) ts, ns[k]? = some ts → ∃ ad B c, NA = some ad ∧ w.heap.size ≤ ad.block ∧ ad.block < w'.heap.size ∧ w'.cell? (ad.add k) = some (.slice B ts.length c) ∧ TermsAt w' B ts ∧ (ts ≠ [] → ∀ a, B = some a → w.heap.size ≤ a.block)) ∧ (Ints w' XA nx ∧ (nx ≠ [] → ∀ a, XA = some a → w.heap.size ≤ a.block)) ∧ Below w.heap.size w w'
theorem RetNetF.plain {w : World} {d c : Int × Int × Int × Int} {st : Int} {ns : List (List (Int × Int))} {nx : List Int} {out E : Int} {e : Ending} {w' : World} (h : RetNetF w d c st ns nx out E e w') : RetNet w d c st ns nx out E e w' := by
 obtain ⟨NA, nc, XA, xc, h1, h2, h3, h4⟩ := h
 refine ⟨NA, nc, XA, xc, h1, fun k ts hk => ?_, h3.1, h4⟩
 obtain ⟨ad, B, c, e1, -, e2, e3, e4, -⟩ := h2 k ts hk
 exact ⟨ad, B, c, e1, e2, e3, e4⟩
def oneNx (I K : Nat) : List Int := dlF (dlF (List.replicate (I + K) 0) 0 1 0 I) I ((I : Int) + 1) ((I : Int) + K + 1) K
def oneNs (b a : List Int) (I K : Nat) : List (List (Int × Int)) := [rowF b 1 0 (I + 1) ++ rowF a (-1) ((I : Int) + 1) K]
set_option maxRecDepth 100000 in
set_option maxHeartbeats 4000000 in
theorem dr_FormOneF (A B : Option Addr) (ca cb I K : Nat) (a b : List Int) (d c : Int × Int × Int × Int) (w : World) (hA : Ints w A a) (hB : Ints w B b) (ha : a.length = K) (hb : b.length = I + 1)
  (hd : okW d.1 d.2.1 d.2.2.1 d.2.2.2 = true) (hc : okW c.1 c.2.1 c.2.2.1 c.2.2.2 = true) (hn : I ≤ 48 ∧ K ≤ 8) (fb : ∀ v ∈ b, fitsW c.1 c.2.1 c.2.2.1 c.2.2.2 v = true) (fa : ∀ v ∈ a, fitsW c.1 c.2.1 c.2.2.1 c.2.2.2 v = true ∧ fitsW c.1 c.2.1 c.2.2.1 c.2.2.2 (-v) = true) :
  Calls Tryd.prog 28 #[.slice B (I + 1) cb, .slice A K ca, wordV d.1 d.2.1 d.2.2.1 d.2.2.2, wordV c.1 c.2.1 c.2.2.1 c.2.2.2] w (RetNetF w d c ((I : Int) + K) (oneNs b a I K) (oneNx I K) ((I : Int) + K + 1) 0) := by
 have QW : Hid (∀ w, Ints w A a → Ints w B b → Calls Tryd.prog 62 #[.slice B (I + 1) cb, .slice A K ca, wordV d.1 d.2.1 d.2.2.1 d.2.2.2, wordV c.1 c.2.1 c.2.2.1 c.2.2.2] w fun e w' => e = .returned (.int .i64 0) ∧ Below w.heap.size w w') := fun w h1 h2 => dr_wrong A B ca cb K (I + 1) a b d c w h1 h2 ha hb hd hc (by omega) fb fa
 obtain ⟨d0, d1, d2, d3⟩ := d
 obtain ⟨c0, c1, c2, c3⟩ := c
 obtain ⟨n1, n2⟩ := hn
 simp only at QW ⊢
 have HLA := Lib.hid ha
 have HLB := Lib.hid hb
 have HA := Lib.hid hA
 have HB := Lib.hid hB
 clear hd hc fb fa ha hb hA hB
 obtain ⟨S, hS⟩ : ∃ S, I + K = S := ⟨_, rfl⟩
 have e1 : IntKind.i64.wrap ((I : Int) + (K : Int)) = (S : Int) := by rw [← hS]; exact (IntWalk.i64_in _ (by omega)).trans (by omega)
 have hSe : (I : Int) + K = (S : Int) := by omega
 have HSE := Lib.hid hSe
 have hS2 : S ≤ 56 := by omega
 have HBW := Lib.hid (((Below.refl w.heap.size w).alloc (Nat.le_refl _) (.cells #[.int .i64 d0, .int .i64 d1, .int .i64 d2, .int .i64 d3] 23)).alloc (by simp) (.cells #[.int .i64 c0, .int .i64 c1, .int .i64 c2, .int .i64 c3] 23))
 have HZ : Hid (∀ o, Below w.heap.size w (((w.alloc (.cells #[.int .i64 d0, .int .i64 d1, .int .i64 d2, .int .i64 d3] 23)).alloc (.cells #[.int .i64 c0, .int .i64 c1, .int .i64 c2, .int .i64 c3] 23)).alloc o)) := fun o => HBW.out.alloc (by simp; omega) o
 have hD : ∀ o, Box (((w.alloc (.cells #[.int .i64 d0, .int .i64 d1, .int .i64 d2, .int .i64 d3] 23)).alloc (.cells #[.int .i64 c0, .int .i64 c1, .int .i64 c2, .int .i64 c3] 23)).alloc o) w.heap.size [.int .i64 d0, .int .i64 d1, .int .i64 d2, .int .i64 d3] := fun o => ((Box.new (vs := #[.int .i64 d0, .int .i64 d1, .int .i64 d2, .int .i64 d3]) rfl).alloc _).alloc _
 have hC : ∀ o, Box (((w.alloc (.cells #[.int .i64 d0, .int .i64 d1, .int .i64 d2, .int .i64 d3] 23)).alloc (.cells #[.int .i64 c0, .int .i64 c1, .int .i64 c2, .int .i64 c3] 23)).alloc o) (w.heap.size + 1) [.int .i64 c0, .int .i64 c1, .int .i64 c2, .int .i64 c3] := fun o => ((Box.new (vs := #[.int .i64 c0, .int .i64 c1, .int .i64 c2, .int .i64 c3]) (by simp))).alloc _
 have hR : ∀ (vs : Array Value) t, Box (((w.alloc (.cells #[.int .i64 d0, .int .i64 d1, .int .i64 d2, .int .i64 d3] 23)).alloc (.cells #[.int .i64 c0, .int .i64 c1, .int .i64 c2, .int .i64 c3] 23)).alloc (.cells vs t)) (w.heap.size + 1 + 1) vs.toList := fun vs t => Box.new (by simp)
 have HDB := Lib.hid hD
 have HCB := Lib.hid hC
 have HRB := Lib.hid hR
 clear hD hC hR hS hSe
 go_enter Tryd.func28, Tryd.ntmps28
 go_wp2_with fail
 refine (QW.out _ (HA.out.grow (HZ.out _)) (HB.out.grow (HZ.out _))).mono ?_
 rintro e w1 ⟨rfl, hb1⟩
 have hD := (HDB.out _).keep hb1
 have hC := (HCB.out _).keep hb1
 have hR := (HRB.out _ _).keep hb1
 have hb := (HZ.out _).trans (hb1.mono (HZ.out _).size)
 obtain ⟨p0, p1, p2, p3⟩ := hD.c4
 obtain ⟨q0, q1, q2, q3⟩ := hC.c4
 have hlt := hR.1
 have hlt1 := hC.1
 have hlt0 := hD.1
 have HD := Lib.hid hD
 have HC := Lib.hid hC
 have HR := Lib.hid hR
 have HBB := Lib.hid hb
 have hmk : ∀ w, (Instr.makeSlice 25 (.int .i64 (S : Int)) (.int .i64 (S : Int))).run Tryd.prog w = .ok (.slice (some ⟨w.heap.size, 0, none⟩) S S) (w.alloc (.cells (madeCells (Value.int .i64 0).cells (S * 1)) 3)) := fun w => by
  obtain ⟨i0, hi, hz0, hz1, hz2⟩ := info_parts info_int
  have := run_make (P := Tryd.prog) w 25 3 i0 (.int .i64 0) Tryd.underlying25 hi hz0 .i64 .i64 (S : Int) (S : Int) (by omega) (by omega) (by rw [hz2]; omega) (by omega)
  rw [hz1, Int.toNat_natCast] at this
  exact this
 clear hb1 hb HDB HCB HRB HZ HBW hD hC hR
 go_upto_region 6 with fail
 go_cut [13] (fun s13 wx => ∃ g h : Nat, s13 = .pointer (some ⟨g, 0, none⟩) ∧ Box wx g [.int .i64 d0, .int .i64 d1, .int .i64 d2, .int .i64 d3, .int .i64 c0, .int .i64 c1, .int .i64 c2, .int .i64 c3, .int .i64 S, .slice none 0 0, .slice (some ⟨h, 0, none⟩) S S, .int .i64 ((S : Int) + 1)] ∧
  Own w1.heap.size wx (.slice (some ⟨h, 0, none⟩) S S) (List.replicate S 0) ∧ g ≠ h ∧ w1.heap.size ≤ g ∧ Below w1.heap.size w1 wx)
 case first =>
  go_region
  all_goals
   go_wp2_with fail
   go_meet
   first
    | (refine ⟨w1.heap.size + 1, w1.heap.size, rfl, ?_, ?_, by omega, by omega, by go_grown⟩; exact (Box.new (vs := #[.int .i64 d0, .int .i64 d1, .int .i64 d2, .int .i64 d3, .int .i64 c0, .int .i64 c1, .int .i64 c2, .int .i64 c3, .int .i64 S, .slice none 0 0, .slice (some ⟨w1.heap.size, 0, none⟩) S S, .int .i64 ((S : Int) + 1)]) (by simp)).drew; exact ((own_made rfl (Nat.le_refl _) (by omega)).grow (Below.alloc (Below.refl _ _) (Nat.le_refl _) _)).grow (Below.drew (Below.refl _ _)))
    | (refine ⟨w1.heap.size, w1.heap.size + 1, rfl, ?_, ?_, by omega, by omega, by go_grown⟩; exact ((Box.new (vs := #[.int .i64 d0, .int .i64 d1, .int .i64 d2, .int .i64 d3, .int .i64 c0, .int .i64 c1, .int .i64 c2, .int .i64 c3, .int .i64 S, .slice none 0 0, .slice (some ⟨w1.heap.size + 1, 0, none⟩) S S, .int .i64 ((S : Int) + 1)]) rfl).alloc _).drew; exact (own_made (by simp) (by simp) (by omega)).grow (Below.drew (Below.refl _ _)))
 case rest =>
  obtain ⟨g, h, rfl, hG, hO, hne, hgb, hbx⟩ := hcut
  have hD := HD.out.keep hbx
  have hC := HC.out.keep hbx
  have hR := HR.out.keep hbx
  have hb := below_then HBB.out hbx
  have HG := Lib.hid hG
  have HO := Lib.hid hO
  have hO2 := hO.block
  obtain ⟨⟨y1, y2, y3, y4⟩, ⟨y5, y6, y7, y8⟩, y9, y10, y11, y12⟩ := hG.c12
  clear hG hO hmk p0 p1 p2 p3 q0 q1 q2 q3
  have HH := Lib.hid hO2
  clear y1 y2 y3 y4 y5 y6 y7 y8 y9 y10 y11 y12
  go_wp2_with fail
  refine (dr_row B cb (I + 1) b 1 0 _ (HB.out.grow hb) HLB.out (by omega)).mono ?_
  rintro e w2 ⟨v2, rfl, ho2, hb2⟩
  obtain ⟨A2, c2', e2, _, i2⟩ := ho2.form
  rw [rowF_length, HLB.out] at e2
  subst e2
  have hb := below_then hb hb2
  have hwc := hb2
  clear ho2
  go_wp2_with fail
  refine (dr_row A ca K a (-1) ((I : Int) + 1) _ (HA.out.grow hb) HLA.out (by omega)).mono ?_
  rintro e w3 ⟨v3, rfl, ho3, hb3⟩
  obtain ⟨A3, c3', e3, _, i3⟩ := ho3.form
  rw [rowF_length, HLA.out] at e3
  subst e3
  have hb := below_then hb hb3
  have hwc := below_then hwc hb3
  have i2 := i2.grow hb3
  clear ho3
  go_wp2_with fail
  have i3a := i3.grow (Below.alloc (Below.refl _ _) (Nat.le_refl _) (.cells #[.slice A2 (I + 1) c2', .slice A3 K c3'] 34))
  have i2a := i2.grow (Below.alloc (Below.refl _ _) (Nat.le_refl _) (.cells #[.slice A2 (I + 1) c2', .slice A3 K c3'] 34))
  have l2 := (rowF_length b 1 0 (I + 1)).trans HLB.out
  have l3 := (rowF_length a (-1) ((I : Int) + 1) K).trans HLA.out
  obtain ⟨r2, hr2⟩ : ∃ r, rowF b 1 0 (I + 1) = r := ⟨_, rfl⟩
  obtain ⟨r3, hr3⟩ : ∃ r, rowF a (-1) ((I : Int) + 1) K = r := ⟨_, rfl⟩
  rw [hr2] at i2a l2
  rw [hr3] at i3a l3
  have HR2 := Lib.hid hr2
  have HR3 := Lib.hid hr3
  clear hr2 hr3 i2 i3
  refine (dr_join (some ⟨w3.heap.size, 0, none⟩) 2 2 [r2, r3] _ (nodes_two i2a i3a l2 l3) rfl (by omega) (fun ts ht => by simp at ht; rcases ht with rfl | rfl <;> omega)).mono ?_
  rintro e w4 ⟨v4, rfl, ho4, hb4⟩
  obtain ⟨A4, c4, e4, _, i4⟩ := ho4.form
  have l4 : [r2, r3].flatten.length = S + 1 := by have := HSE.out; simp; omega
  rw [l4] at e4
  subst e4
  have hwc := (hwc.trans ((Below.alloc (Below.refl w3.heap.size w3) (Nat.le_refl _) (.cells #[.slice A2 (I + 1) c2', .slice A3 K c3'] 34)).mono hwc.size)).trans (hb4.mono (by simp; have := hwc.size; omega))
  have hA4 : ∀ a, A4 = some a → wc.heap.size ≤ a.block := fun a e => by
   have h1 := (ho4.1.lt a.block (by rw [e]; rfl)).1
   have h2 := hb3.size
   have h3 := hb2.size
   simp at h1
   omega
  have hgc := HG.out.1
  have hG := HG.out.keep hwc
  have hO := HO.out.grow hwc
  have hD := hD.keep hwc
  have hC := hC.keep hwc
  have hR := hR.keep hwc
  have hb := below_then (below_then HBB.out hbx) hwc
  have HA4 := Lib.hid hA4
  have L4 := Lib.hid l4
  obtain ⟨⟨y1, y2, y3, y4⟩, ⟨y5, y6, y7, y8⟩, y9, y10, y11, y12⟩ := hG.c12
  have hf := hG.2.2
  have hgl := hG.1
  have HG := Lib.hid hG
  have HO := Lib.hid hO
  have HD := Lib.hid hD
  have HC := Lib.hid hC
  have HR := Lib.hid hR
  have HBB := Lib.hid hb
  have I4 := Lib.hid i4
  have HWC := Lib.hid hwc
  have hIS : I ≤ S := by have := HSE.out; omega
  have hg4 : h < w4.heap.size := Nat.lt_of_lt_of_le hO2.2 hwc.size
  clear hb2 hb3 hb4 ho4 i2a i3a hwc hb hR hC hD hO hG hbx hA4 l4 i4
  go_wp2_with fail
  have ho5 := ((HO.out.other (k := 9) (u := .slice (some ⟨w4.heap.size, 0, none⟩) 1 1) (fun e => hne e.symm)).grow (Below.alloc (Below.refl _ _) (Nat.le_refl _) (.cells #[.slice A4 (S + 1) c4] 36)))
  refine (dr_delay w1.heap.size h 0 I S S S (List.replicate S 0) 1 0 _ ho5 (by simp) (by omega) (by omega) ⟨by decide, by decide⟩).mono ?_
  rintro e w6 ⟨rfl, ho6, hg6⟩
  have hsz6 := hg6.size
  simp only [World.size_alloc, World.size_setCell] at hsz6
  have hG : Box w6 g [.int .i64 d0, .int .i64 d1, .int .i64 d2, .int .i64 d3, .int .i64 c0, .int .i64 c1, .int .i64 c2, .int .i64 c3, .int .i64 S, .slice (some ⟨w4.heap.size, 0, none⟩) 1 1, .slice (some ⟨h, 0, none⟩) S S, .int .i64 ((S : Int) + 1)] := ((HG.out.set (k := 9)).alloc _).grown hg6 (fun e => hne (by injection e))
  have hB9 : Box w6 w4.heap.size [.slice A4 (S + 1) c4] := (Box.new (by simp)).grown hg6 (fun e => by injection e with e; omega)
  have hT6 : TermsAt w6 A4 [r2, r3].flatten := ((I4.out.grown (grown_set (grown_refl w4 (some g))) (fun a e hc => by have := HA4.out a e; injection hc with hc; omega)).grow (Below.alloc (Below.refl _ _) (Nat.le_refl _) (.cells #[.slice A4 (S + 1) c4] 36))).grown hg6 (fun a e hc => by have := HA4.out a e; injection hc with hc; have := hO2.2; omega)
  have hD6 : Box w6 w.heap.size [.int .i64 d0, .int .i64 d1, .int .i64 d2, .int .i64 d3] := (((HD.out.past (fun e => by omega))).alloc _).grown hg6 (fun e => by injection e with e; have := hO2.1; omega)
  have hR6 := (((HR.out.past (b := g) (k := 9) (u := .slice (some ⟨w4.heap.size, 0, none⟩) 1 1) (fun e => by omega))).alloc (.cells #[.slice A4 (S + 1) c4] 36)).grown hg6 (fun e => by injection e with e; have := hO2.1; omega)
  have hw6 : Below w.heap.size w w6 := grown_to ((HBB.out.setCell (p := ⟨g, 9, none⟩) (by show _ ≤ g; omega) _).alloc (by have := HBB.out.size; simp; omega) _) hg6 (by have := hO2.1; omega)
  obtain ⟨⟨y1, y2, y3, y4⟩, ⟨y5, y6, y7, y8⟩, y9, y10, y11, y12⟩ := hG.c12
  have HG := Lib.hid hG
  have HB9 := Lib.hid hB9
  have HT6 := Lib.hid hT6
  have HO6 := Lib.hid ho6
  have HR6 := Lib.hid hR6
  have HW6 := Lib.hid hw6
  clear hG hB9 hT6 ho5 ho6 hD6 hR6 hw6 hg6
  go_wp2_with fail
  have e2 : IntKind.i64.wrap ((I : Int) + 1) = (I : Int) + 1 := IntWalk.i64_in _ (by omega)
  have HDL : Hid (Calls Tryd.prog 65 #[.slice (if S = I then some ⟨h, 0, none⟩ else some ⟨h, I, none⟩) (S - I) (S - I), .int .i64 ((I : Int) + 1), .int .i64 ((S : Int) + 1)] w6.drew fun e w' => e = .returned (.tuple #[]) ∧ Own w1.heap.size w' (.slice (some ⟨h, 0, none⟩) S S) (dlF (dlF (List.replicate S 0) 0 1 0 I) I ((I : Int) + 1) ((S : Int) + 1) (S - I)) ∧ w6.drew.grownBy w' (some h)) :=
   dr_delay_if w1.heap.size h I S _ ((I : Int) + 1) ((S : Int) + 1) w6.drew (HO6.out.grow (Below.drew (Below.refl _ _))) (by rw [dlF_length]; simp) hIS (by omega) (by unfold I64; omega)
  go_still_tail 8, (by kernel_rfl)
  change wpList _ _ _ _ _ w6.drew
  have hdl := HDL.out
  clear HDL
  generalize (if S = I then some (⟨h, 0, none⟩ : Addr) else some ⟨h, I, none⟩) = B2 at hdl ⊢
  have HDL := Lib.hid hdl
  clear hdl
  go_wp2_with fail
  refine HDL.out.mono ?_
  rintro e w7 ⟨rfl, ho7, hg7⟩
  have hsz7 := hg7.size
  have hG := (HG.out.drew).grown hg7 (fun e => hne (by injection e))
  have hB9 := (HB9.out.drew).grown hg7 (fun e => by injection e with e; omega)
  have hT7 := (HT6.out.grow (Below.drew (Below.refl _ _))).grown hg7 (fun a e hc => by have := HA4.out a e; injection hc with hc; have := hO2.2; omega)
  have hR7 := (HR6.out.drew).grown hg7 (fun e => by injection e with e; have := hO2.1; omega)
  have hw7 : Below w.heap.size w w7 := grown_to (HW6.out.drew) hg7 (by have := hO2.1; omega)
  obtain ⟨⟨x1, x2, x3, x4⟩, ⟨x5, x6, x7, x8⟩, x9, x10, x11, x12⟩ := hG.c12
  obtain ⟨⟨z1, z2, z3, z4⟩, ⟨z5, z6, z7, z8⟩, z9, z10, z11, z12⟩ := hR7.c12
  have hf7 := hR7.2.2
  have hl7 := hR7.1
  go_wp2_with fail
  have hR8 := hR7.fill12 (.int .i64 d0) (.int .i64 d1) (.int .i64 d2) (.int .i64 d3) (.int .i64 c0) (.int .i64 c1) (.int .i64 c2) (.int .i64 c3) (.int .i64 S) (.slice (some ⟨w4.heap.size, 0, none⟩) 1 1) (.slice (some ⟨h, 0, none⟩) S S) (.int .i64 ((S : Int) + 1))
  have hg8 := fill12_grown w7 (w.heap.size + 1 + 1) (.int .i64 d0) (.int .i64 d1) (.int .i64 d2) (.int .i64 d3) (.int .i64 c0) (.int .i64 c1) (.int .i64 c2) (.int .i64 c3) (.int .i64 S) (.slice (some ⟨w4.heap.size, 0, none⟩) 1 1) (.slice (some ⟨h, 0, none⟩) S S) (.int .i64 ((S : Int) + 1))
  unfold fill12 at hR8 hg8
  clear x1 x2 x3 x4 x5 x6 x7 x8 x9 x10 x11 x12 z1 z2 z3 z4 z5 z6 z7 z8 z9 z10 z11 z12 hf7
  generalize ((((((((((((w7.setCell ⟨w.heap.size + 1 + 1, 0, none⟩ (.int .i64 d0)).setCell ⟨w.heap.size + 1 + 1, 1, none⟩ (.int .i64 d1)).setCell ⟨w.heap.size + 1 + 1, 2, none⟩ (.int .i64 d2)).setCell ⟨w.heap.size + 1 + 1, 3, none⟩ (.int .i64 d3)).setCell ⟨w.heap.size + 1 + 1, 4, none⟩ (.int .i64 c0)).setCell ⟨w.heap.size + 1 + 1, 5, none⟩ (.int .i64 c1)).setCell ⟨w.heap.size + 1 + 1, 6, none⟩ (.int .i64 c2)).setCell ⟨w.heap.size + 1 + 1, 7, none⟩ (.int .i64 c3)).setCell ⟨w.heap.size + 1 + 1, 8, none⟩ (.int .i64 (S : Int))).setCell ⟨w.heap.size + 1 + 1, 9, none⟩ (.slice (some ⟨w4.heap.size, 0, none⟩) 1 1)).setCell ⟨w.heap.size + 1 + 1, 10, none⟩ (.slice (some ⟨h, 0, none⟩) S S)).setCell ⟨w.heap.size + 1 + 1, 11, none⟩ (.int .i64 ((S : Int) + 1))) = W8 at hR8 hg8 ⊢
  obtain ⟨⟨z1, z2, z3, z4⟩, ⟨z5, z6, z7, z8⟩, z9, z10, z11, z12⟩ := hR8.c12
  refine bodyPost_ret (v := .tuple #[netV d0 d1 d2 d3 c0 c1 c2 c3 (S : Int) (some ⟨w4.heap.size, 0, none⟩) 1 1 (some ⟨h, 0, none⟩) S S ((S : Int) + 1), .int .i64 0]) (by simp [results, Tryd.results28, go_sem, z1, z2, z3, z4, z5, z6, z7, z8, z9, z10, z11, z12]) rfl ?_
  have hSN : I + K = S := by have := HSE.out; omega
  have hK : S - I = K := by omega
  have eNx : oneNx I K = dlF (dlF (List.replicate S 0) 0 1 0 I) I ((I : Int) + 1) ((S : Int) + 1) (S - I) := by unfold oneNx; rw [hSN, hK, HSE.out]
  have lNx : (oneNx I K).length = S := by rw [eNx, dlF_length, dlF_length, List.length_replicate]
  have eNs : oneNs b a I K = [[r2, r3].flatten] := by unfold oneNs; rw [HR2.out, HR3.out]; simp
  refine ⟨some ⟨w4.heap.size, 0, none⟩, 1, some ⟨h, 0, none⟩, S, ?_, ?_, ?_, ?_⟩
  ·rw [HSE.out, lNx]; rfl
  ·rw [eNs]
   intro k t hk
   match k, hk with
   | 0, hk =>
    simp only [List.getElem?_cons_zero, Option.some.injEq] at hk
    subst hk
    have hb9 := hB9.grown hg8 (fun e => by injection e with e; omega)
    rw [← L4.out] at hb9
    exact ⟨_, A4, c4, rfl, by show w.heap.size ≤ w4.heap.size; exact HBB.out.size, hb9.1, hb9.2.1 0, hT7.grown hg8 (fun a e hc => by have := HA4.out a e; injection hc with hc; omega), fun _ a e => by have := HA4.out a e; omega⟩
  ·rw [eNx]
   obtain ⟨_, _, e, _, hi⟩ := (ho7.kept_at hg8 (by omega)).form
   injection e with e
   rw [e]
   refine ⟨hi, fun _ a ea => ?_⟩
   rw [← e] at ea
   injection ea with ea
   rw [← ea]
   have := hO2.1
   show w.heap.size ≤ h
   omega
  ·exact grown_to hw7 hg8 (by omega)
theorem dr_FormOne (A B : Option Addr) (ca cb I K : Nat) (a b : List Int) (d c : Int × Int × Int × Int) (w : World) (hA : Ints w A a) (hB : Ints w B b) (ha : a.length = K) (hb : b.length = I + 1)
  (hd : okW d.1 d.2.1 d.2.2.1 d.2.2.2 = true) (hc : okW c.1 c.2.1 c.2.2.1 c.2.2.2 = true) (hn : I ≤ 48 ∧ K ≤ 8) (fb : ∀ v ∈ b, fitsW c.1 c.2.1 c.2.2.1 c.2.2.2 v = true) (fa : ∀ v ∈ a, fitsW c.1 c.2.1 c.2.2.1 c.2.2.2 v = true ∧ fitsW c.1 c.2.1 c.2.2.1 c.2.2.2 (-v) = true) :
  Calls Tryd.prog 28 #[.slice B (I + 1) cb, .slice A K ca, wordV d.1 d.2.1 d.2.2.1 d.2.2.2, wordV c.1 c.2.1 c.2.2.1 c.2.2.2] w (RetNet w d c ((I : Int) + K) (oneNs b a I K) (oneNx I K) ((I : Int) + K + 1) 0) :=
 (dr_FormOneF A B ca cb I K a b d c w hA hB ha hb hd hc hn fb fa).mono fun _ _ h => h.plain
end Go.Proofs.YtdiflpbioohddaaDoor
