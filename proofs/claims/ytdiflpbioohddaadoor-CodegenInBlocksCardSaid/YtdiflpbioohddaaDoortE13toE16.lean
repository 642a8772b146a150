/- Several texts in one: E13 E14 E15 U4 E16. -/
import Derived.Test.YtdiflpbioohddaaDoortI1toE12
import Derived.Lib.MinMax
import Derived.OwnWalk
import Derived.Test.YtdiflpbioohddaaDoortUtoU3
set_option linter.unusedVariables false
set_option linter.unusedSimpArgs false
section
namespace Go.Proofs.YtdiflpbioohddaaDoor
open Go.RowKit
def htS (l : List Ins) (j : Nat) (h : List Int) (i : Int) : List Int := h.set i.toNat (max (h.getD i.toNat 0) (latP l i.toNat j + h.getD j 0))
def htI (l : List Ins) (j : Nat) (h : List Int) (is : List Int) : List Int := is.foldl (htS l j) h
def htJ (l : List Ins) (j : Nat) (h : List Int) : List Int := htI l j (h.set j (max (h.getD j 0) 1)) (depRow l j j)
def hts (l : List Ins) (n : Nat) : Nat → List Int
 | 0 => List.replicate n 0
 | k + 1 => htJ l (n - 1 - k) (hts l n k)
def htF (l : List Ins) : List Int := hts l l.length l.length
def htD (l : List Ins) : List Int := if fineF l then htF l else []
theorem hts_step {l : List Ins} {n j : Nat} (h : j < n) : hts l n (n - j) = htJ l j (hts l n (n - (j + 1))) := by
 rw [show n - j = n - (j + 1) + 1 by omega]
 show htJ l (n - 1 - (n - (j + 1))) _ = _
 rw [show n - 1 - (n - (j + 1)) = j by omega]
def InB (h : List Int) (n : Nat) (B : Int) : Prop := h.length = n ∧ ∀ v ∈ h, 0 ≤ v ∧ v ≤ B
theorem InB.getD {h : List Int} {n : Nat} {B : Int} (hb : InB h n B) (hB : 0 ≤ B) (i : Nat) : 0 ≤ h.getD i 0 ∧ h.getD i 0 ≤ B := by
 rw [List.getD_eq_getElem?_getD]
 cases e : h[i]? with
 | none => exact ⟨Int.le_refl _, hB⟩
 | some v => exact hb.2 v (List.mem_of_getElem? e)
theorem InB.at {h : List Int} {n : Nat} {B : Int} (hb : InB h n B) {i : Nat} (hi : i < n) : h[i]? = some (h.getD i 0) := by
 rw [List.getD_eq_getElem?_getD, List.getElem?_eq_getElem (by rw [hb.1]; exact hi)]; rfl
theorem InB.set {h : List Int} {n : Nat} {B v : Int} (hb : InB h n B) (i : Nat) (hv : 0 ≤ v ∧ v ≤ B) : InB (h.set i v) n B := by
 refine ⟨by rw [List.length_set]; exact hb.1, fun x hx => ?_⟩
 rcases List.mem_or_eq_of_mem_set hx with h1 | h1
 ·exact hb.2 x h1
 ·rw [h1]; exact hv
theorem InB.le {h : List Int} {n : Nat} {B C : Int} (hb : InB h n B) (hc : B ≤ C) : InB h n C := ⟨hb.1, fun v hv => by have := hb.2 v hv; omega⟩
theorem htS_in {l : List Ins} {j n : Nat} {h : List Int} {i : Int} {B : Int} (hb : InB h n B) (hj : 0 ≤ h.getD j 0 ∧ h.getD j 0 + 3 ≤ B) (hi : 0 ≤ i ∧ i < j) :
  InB (htS l j h i) n B ∧ (htS l j h i).getD j 0 = h.getD j 0 := by
 have h1 := hb.getD (by omega) i.toNat
 have h2 := latP_in l i.toNat j
 refine ⟨hb.set _ (by omega), ?_⟩
 unfold htS
 rw [List.getD_eq_getElem?_getD, List.getElem?_set_ne (by omega), ← List.getD_eq_getElem?_getD]
theorem htI_in {l : List Ins} {j n : Nat} {B : Int} : ∀ (is : List Int) (h : List Int), InB h n B → (0 ≤ h.getD j 0 ∧ h.getD j 0 + 3 ≤ B) → (∀ i ∈ is, 0 ≤ i ∧ i < (j : Int)) →
  InB (htI l j h is) n B ∧ (htI l j h is).getD j 0 = h.getD j 0
 | [], h, hb, _, _ => ⟨hb, rfl⟩
 | i :: is, h, hb, hj, hi => by
  obtain ⟨h1, h2⟩ := htS_in (l := l) hb hj (hi i (List.mem_cons_self ..))
  obtain ⟨h3, h4⟩ := htI_in is (htS l j h i) h1 (by rw [h2]; exact hj) (fun x hx => hi x (List.mem_cons_of_mem _ hx))
  exact ⟨h3, h4.trans h2⟩
theorem depRow_in {l : List Ins} {j m : Nat} : ∀ i ∈ depRow l j m, 0 ≤ i ∧ i < (m : Int) := fun i hi => by
 obtain ⟨k, h1, h2, -⟩ := depRow_mem hi
 omega
theorem hts_in (l : List Ins) (n : Nat) : ∀ k, k ≤ n → InB (hts l n k) n (3 * k + 1)
 | 0, _ => ⟨by simp [hts], fun v hv => by rw [List.eq_of_mem_replicate hv]; omega⟩
 | k + 1, hk => by
  have h := hts_in l n k (by omega)
  have h1 := h.getD (by omega) (n - 1 - k)
  have h2 : InB ((hts l n k).set (n - 1 - k) (max ((hts l n k).getD (n - 1 - k) 0) 1)) n (3 * (k + 1 : Nat) + 1) := (h.le (by omega)).set _ (by omega)
  refine (htI_in _ _ h2 ?_ (fun i hi => ?_)).1
  ·rw [List.getD_eq_getElem?_getD, List.getElem?_set_self (by rw [h.1]; omega)]
   show 0 ≤ max _ _ ∧ max _ _ + 3 ≤ _
   omega
  ·exact depRow_in i hi
theorem htI_snoc {l : List Ins} {j : Nat} {h is : List Int} {k : Nat} {i : Int} (hi : is[k]? = some i) : htI l j h (is.take (k + 1)) = htS l j (htI l j h (is.take k)) i := by
 rw [take_snoc' hi]
 unfold htI
 rw [List.foldl_append]; rfl
theorem getD_setS {h : List Int} {n j : Nat} {v : Int} (hl : h.length = n) (hj : j < n) : (h.set j v).getD j 0 = v := by
 rw [List.getD_eq_getElem?_getD, List.getElem?_set_self (by omega)]; rfl
set_option maxRecDepth 100000 in
set_option maxHeartbeats 8000000 in
theorem sc_Heights (A : Option Addr) (n c : Nat) (l : List Ins) (w : World) (hf : FormsAt w) (h : InsAt w A l) (hn : l.length = n) (h9 : n ≤ 9223372036854775807) : Calls Tryd.prog 82 #[.slice A n c] w (RetInts w (htD l) (depE l)) := by
 have CD := Lib.hid (sc_Depends A n c l w hf h hn h9)
 by_cases hfl : fineF l = true
 ·have hn512 : n ≤ 512 := by
   unfold fineF inB at hfl
   rw [Bool.and_eq_true, Bool.and_eq_true, decide_eq_true_eq, decide_eq_true_eq, hn] at hfl
   omega
  have e1 : depD l = depsF l := by unfold depD; rw [if_pos hfl]
  have e2 : depE l = 0 := by unfold depE; rw [if_pos hfl]
  have e3 : htD l = hts l n n := by unfold htD htF; rw [if_pos hfl, hn]
  have e4 : (depsF l).length = n := by unfold depsF; rw [depT_length, hn]
  have HAT : Hid (∀ j, j < n → (depsF l)[j]? = some (depRow l j j)) := fun j hj => by
   unfold depsF; rw [hn, depT_at hj, if_pos hj]
  rw [e1, e2] at CD
  rw [e2, e3]
  have HE4 := Lib.hid e4
  have HI := Lib.hid h
  have HN := Lib.hid hn
  have CU : Hid (∀ w1, Below w.heap.size w w1 → Calls Tryd.prog 81 #[.slice A n c] w1 fun e w' => ∃ UA uc, e = .returned (.tuple #[.slice UA n uc, .int .i64 0]) ∧ UsesAt w' UA l ∧ Below w1.heap.size w1 w') := fun w1 hb => by
   refine (sc_uses A n c l w1 (hf.grow hb) (HI.out.grow hb) HN.out h9).mono ?_
   rintro e w' ⟨⟨UA, uc, he, hu⟩, hb⟩
   unfold depE at he
   rw [if_pos hfl, if_pos hfl, HN.out] at he
   exact ⟨UA, uc, he, hu hfl, hb⟩
  clear hf
  clear h hn hfl h9 e1 e2 e3 e4
  go_enter Tryd.func82, Tryd.ntmps82
  go_upto_region 4 with (go_at_call 80; (with_reducible refine CD.out.mono ?_); rintro e1 w1 ⟨DA, dc, rfl, hd, hb1⟩)
  rw [HE4.out]
  go_upto_region 5 with (go_at_call 81; (with_reducible refine (CU.out _ hb1).mono ?_); rintro e1 w2 ⟨UA, uc, rfl, hu, hb2⟩)
  have HU := Lib.hid hu
  have HD := Lib.hid (hd.grow hb2)
  have HB0 := Lib.hid (below_then hb1 hb2)
  clear hu hb2 hd hb1
  have HI0 := Lib.hid (HI.out.grow HB0.out)
  clear HI CD CU
  go_upto_region 6 with ((with_reducible show wpList _ _ _ (Oper.mk (some 27) _ _ _ _ _ :: _) _ _); refine mk_int rfl _ _ rfl w2.heap.size n rfl rfl rfl (by omega) (Nat.le_refl _) ?_; intro w3 ho3 hb3)
  have HO3 : Hid (Own w2.heap.size w3 (.slice (some ⟨w2.heap.size, 0, none⟩) n n) (hts l n (n - n))) := by rw [Nat.sub_self]; exact ho3
  have HB3 := Lib.hid hb3
  have HG : Hid (∃ g, w2.heap.size = g) := ⟨_, rfl⟩
  obtain ⟨g, hg⟩ := HG.out
  have HGG := Lib.hid hg
  rw [hg] at HO3 HB3 ⊢
  clear ho3 hb3 hg HG
  have wn : IntKind.i64.wrap ((n : Int) - 1) = (n : Int) - 1 := IntWalk.i64_in _ (by omega)
  go_wp2_with fail
  go_loopw [9] (fun x wr => ∃ (t : Nat) (v : Int), t ≤ n ∧ v = (t : Int) - 1 ∧ x = .int .i64 v ∧ Hid (Own g wr (.slice (some ⟨g, 0, none⟩) n n) (hts l n (n - t))) ∧ Hid (Below g w2 wr)) (fun x _ => (intOf x + 1).toNat)
  case atStart => exact ⟨n, _, Nat.le_refl _, rfl, rfl, HO3, HB3⟩
  case round =>
   obtain ⟨t, v, ht, hv, rfl, HO, HB⟩ := hrel
   cases t with
   | zero =>
    obtain rfl : v = -1 := by omega
    clear hv
    go_wp2_with fail
    go_ret2
    exact RetInts.mk (HO.out.base (HGG.out ▸ HB0.out.size)) (below_then HB0.out (HGG.out ▸ HB.out))
   | succ j =>
    obtain rfl : v = (j : Int) := by omega
    clear hv
    have HT : Hid (j < n ∧ hts l n (n - j) = htJ l j (hts l n (n - (j + 1)))) := ⟨by omega, hts_step (by omega)⟩
    have HIN := Lib.hid (hts_in l n (n - (j + 1)) (by omega))
    obtain ⟨h0, hh0⟩ : ∃ h0, hts l n (n - (j + 1)) = h0 := ⟨_, rfl⟩
    rw [hh0] at HO HIN HT
    clear hh0
    have hj0 : 0 ≤ h0.getD j 0 ∧ h0.getD j 0 ≤ 3 * 512 := by have := HIN.out.getD (by omega) j; omega
    have c0 := HO.out.cell (HIN.out.at HT.out.1)
    have f0 := HO.out.free j
    obtain ⟨a0, ha0⟩ : ∃ a0, h0.getD j 0 = a0 := ⟨_, rfl⟩
    have HA0 := Lib.hid ha0
    rw [ha0] at hj0 c0
    clear ha0
    have q1 : (0 : Int) ≤ (j : Int) := by omega
    have q2 : (j : Int) < (n : Int) := by omega
    have wj : IntKind.i64.wrap ((j : Int) - 1) = (j : Int) - 1 := IntWalk.i64_in _ (by omega)
    go_upto_region 10 with fail
    have hm0 : 0 ≤ max a0 1 ∧ max a0 1 ≤ 3 * 512 := by omega
    obtain ⟨hj, hhj⟩ : ∃ hj, max a0 1 = hj := ⟨_, rfl⟩
    have HHJ := Lib.hid hhj
    rw [hhj] at hm0 ⊢
    clear hhj c0 f0 hj0
    have HO1 := Lib.hid (HO.out.set j (y := hj) ⟨by omega, by omega⟩)
    have HB1 := Lib.hid (below_set (k := j) (u := .int .i64 hj) HB.out (Nat.le_refl g))
    have HIB : Hid (InB (h0.set j hj) n (3 * 512 + 10) ∧ (h0.set j hj).getD j 0 = hj ∧ (0 ≤ hj ∧ hj + 3 ≤ 3 * 512 + 10) ∧ hj = max (h0.getD j 0) 1) := ⟨(HIN.out.le (by omega)).set _ (by omega), getD_setS HIN.out.1 HT.out.1, by omega, by rw [HA0.out]; exact HHJ.out.symm⟩
    generalize wr.setCell ⟨g, j, none⟩ (.int .i64 hj) = wa at HO1 HB1 ⊢
    clear HO HB HHJ HA0
    obtain ⟨h1, hh1⟩ : ∃ h1, h0.set j hj = h1 := ⟨_, rfl⟩
    have HH1 := Lib.hid hh1
    rw [hh1] at HO1 HIB
    clear hh1 HIN
    have hdr := (HD.out.grow (HGG.out ▸ HB1.out)) j _ (HAT.out j HT.out.1)
    obtain ⟨dd, RB, rc, rfl, hdb, hdc, hri⟩ := hdr
    have HRI : Hid (Ints w2 RB (depRow l j j)) := by
     obtain ⟨dd2, RB2, rc2, e2, hdb2, hdc2, hri2⟩ := HD.out j _ (HAT.out j HT.out.1)
     obtain rfl : dd = dd2 := Option.some.inj e2
     have := (HGG.out ▸ HB1.out : Below w2.heap.size w2 wa).cell (p := dd.add j) (by rw [block_add]; exact hdb2)
     rw [hdc2, hdc] at this
     injection this with this
     injection this with this
     subst this
     exact hri2
    have HDC : Hid (∀ w', Below g w2 w' → w'.cell? (dd.add j) = some (.slice RB (depRow l j j).length rc)) := fun w' hb => by
     obtain ⟨dd2, RB2, rc2, e2, hdb2, hdc2, hri2⟩ := HD.out j _ (HAT.out j HT.out.1)
     obtain rfl : dd = dd2 := Option.some.inj e2
     rw [← hdc]
     exact ((HGG.out ▸ hb : Below w2.heap.size w2 w').cell (p := dd.add j) (by rw [block_add]; exact hdb2)).trans ((HGG.out ▸ HB1.out : Below w2.heap.size w2 wa).cell (p := dd.add j) (by rw [block_add]; exact hdb2)).symm
    clear hri hdb
    obtain ⟨is, his⟩ : ∃ is, depRow l j j = is := ⟨_, rfl⟩
    have HIS : Hid ((∀ i ∈ is, 0 ≤ i ∧ i < (j : Int)) ∧ is.length ≤ j ∧ depRow l j j = is) := by subst his; exact ⟨depRow_in, depRow_len l j j, rfl⟩
    rw [his] at HRI HDC hdc
    clear his
    obtain ⟨r, hr⟩ : ∃ r, is.length = r := ⟨_, rfl⟩
    have HR := Lib.hid hr
    have hrj : r ≤ j := by rw [← hr]; exact HIS.out.2.1
    rw [hr] at HDC hdc
    clear hr
    obtain ⟨wo, hwo⟩ : ∃ wo : World, wo = wr := ⟨_, rfl⟩
    go_wp2_with fail
    go_loopw [48] (fun x wr => ∃ k : Nat, k ≤ r ∧ x = .int .i64 k ∧ Hid (Own g wr (.slice (some ⟨g, 0, none⟩) n n) (htI l j h1 (is.take k))) ∧ Hid (Below g w2 wr)) (fun x _ => r - (intOf x).toNat)
    case atStart => exact ⟨0, Nat.zero_le _, rfl, HO1, HB1⟩
    case round =>
     obtain ⟨k, hk, rfl, HO, HB⟩ := hrel
     have hdc := HDC.out _ HB.out
     by_cases hkr : k < r
     ·obtain ⟨rd, iv, rfl, hrb, hiv, hrc, -, -⟩ := (HRI.out.grow (HGG.out ▸ HB.out)).at_ (k := k) (by rw [HR.out]; exact hkr)
      have hii := HIS.out.1 iv (List.mem_of_getElem? hiv)
      obtain ⟨i, rfl⟩ : ∃ i : Nat, iv = (i : Int) := ⟨iv.toNat, by omega⟩
      have HST := Lib.hid (htI_snoc (l := l) (j := j) (h := h1) hiv)
      obtain ⟨hx1, hx2⟩ := htI_in (l := l) (j := j) (is.take k) h1 HIB.out.1 (by rw [HIB.out.2.1]; exact HIB.out.2.2.1) (fun i hi => HIS.out.1 i (List.mem_of_mem_take hi))
      rw [HIB.out.2.1] at hx2
      obtain ⟨hc, hhc⟩ : ∃ hc, htI l j h1 (is.take k) = hc := ⟨_, rfl⟩
      rw [hhc] at HO HST hx1 hx2
      clear hhc
      have hlt : i < n := by omega
      have c1 := HO.out.cell (hx1.at hlt)
      have c2 := HO.out.cell (hx1.at HT.out.1)
      rw [hx2] at c2
      have hl1 := hx1.getD (by omega) i
      have hl2 := latP_in l i j
      have hll : hx1.1 = hx1.1 := rfl
      have HGB : Hid (g < wr.heap.size) := HO.out.block.2
      have HSS : Hid (htS l j hc (i : Int) = hc.set i (max (hc.getD i 0) (latP l i j + hj))) := by
       show hc.set _ _ = _
       rw [Int.toNat_natCast, hx2]
      clear hll hiv hrb
      obtain ⟨a1, ha1⟩ : ∃ a1, hc.getD i 0 = a1 := ⟨_, rfl⟩
      obtain ⟨la, hla⟩ : ∃ la, latP l i j = la := ⟨_, rfl⟩
      have CL : Hid (∀ w', Below wr.heap.size wr w' → Calls Tryd.prog 109 #[.slice A n c, .slice UA n uc, .int .i64 i, .int .i64 j] w' fun e w'' => e = .returned (.int .i64 la) ∧ Below w'.heap.size w' w'') := fun w' hb => by
       rw [← hla]
       exact sc_latency A UA n c uc l i j w' (HI0.out.grow (below_then (HGG.out ▸ HB.out) hb)) (HU.out.grow (below_then (HGG.out ▸ HB.out) hb)) HN.out hn512 hlt HT.out.1
      rw [ha1, hla] at HSS
      rw [ha1] at hl1 c1
      rw [hla] at hl2
      have HS1 := Lib.hid (HST.out.trans HSS.out)
      have HX1 := Lib.hid hx1
      have C1 := Lib.hid c1
      have C2 := Lib.hid c2
      clear ha1 hla hx1 hx2 HST HSS c1 c2
      have p1 : (0 : Int) ≤ (k : Int) := by omega
      have p2 : (k : Int) < (r : Int) := by omega
      have wk : IntKind.i64.wrap ((k : Int) + 1) = ((k + 1 : Nat) : Int) := (IntWalk.i64_in _ (by omega)).trans (by omega)
      have p3 : (0 : Int) ≤ (i : Int) := by omega
      have p4 : (i : Int) < (n : Int) := by omega
      have wl : IntKind.i64.wrap (la + hj) = la + hj := IntWalk.i64_in _ (by omega)
      go_upto_region 13 with fail
      refine wp_region_grow8 (fun x => Nat.blt x 18) (fun _ => false) (fun w2 => Below wr.heap.size wr w2) (fun a b => Below a.heap.size a b) (dF 0 [.v (.slice (some ⟨g, 0, none⟩) n n), .v (.int .i64 (i : Int)), .v (.slice (some ⟨g, 0, none⟩) n n), .v (.int .i64 (i : Int)), .v (.pointer (some ⟨g, i, none⟩)), .v (.int .i64 (a1 : Int)), .v (.slice A n c), .v (.slice UA n uc), .v (.int .i64 (i : Int)), .v (.int .i64 (j : Int)), .v (.int .i64 (la : Int)), .v (.slice (some ⟨g, 0, none⟩) n n), .v (.int .i64 (j : Int)), .v (.pointer (some ⟨g, j, none⟩)), .v (.int .i64 (hj : Int)), .v (.int .i64 (la + hj : Int)), .v (.int .i64 (max a1 (la + hj) : Int)), .v (.pointer (some ⟨g, i, none⟩))]) (by kernel_rfl) (by kernel_rfl) (Below.drew (Below.refl _ _)) (fun a b h1 h2 => ⟨below_then h1 h2, fun i _ v => dF_keep h2 i v⟩) (fun w _ => Below.refl _ _) ?_ (fun j o _ _ h => by cases h) ?_
      ·refine ⟨?_, ?_, ?_, ?_, ?_, ?_, ?_, ?_, ?_, ?_, ?_, ?_, ?_, ?_, ?_, ?_, ?_, ?_, trivial⟩
       all_goals
        intro vs w5 hp hF
        have z1 : w5.cell? ⟨g, i, none⟩ = some (.int .i64 a1) := (hp.cell (p := ⟨g, i, none⟩) HGB.out).trans C1.out
        have z2 : w5.cell? ⟨g, j, none⟩ = some (.int .i64 hj) := (hp.cell (p := ⟨g, j, none⟩) HGB.out).trans C2.out
        have HP := Lib.hid hp
        clear hp
        simp [depsB, Region.binds, dF] at hF
        simp [stL, depsB, Region.binds, Act.put, hF]
       all_goals first
        | (go_wp2_with fail; exact ⟨rfl, Below.refl _ _⟩)
        | (go_wp2_with (go_at_call 109; (with_reducible refine (CL.out _ HP.out).mono ?_); rintro e6 w6 ⟨rfl, hb6⟩); first | exact ⟨rfl, hb6⟩ | rfl)
      intro vs w5 hp hF
      have e15 := hF 16 (by decide) rfl
      have e16 := hF 17 (by decide) rfl
      replace e15 : vs 16 = .int .i64 (max a1 (la + hj)) := e15
      replace e16 : vs 17 = .pointer (some ⟨g, i, none⟩) := e16
      have HP := Lib.hid hp
      show wpList Tryd.prog _ _ [_] _ _
      simp [stL, Act.put, e15, e16]
      clear hF e15 e16 hp
      have hmx : 0 ≤ max a1 (la + hj) ∧ max a1 (la + hj) ≤ 2000 := by omega
      have HMX := Lib.hid (show max a1 (la + hj) = max a1 (la + hj) from rfl)
      rw [HMX.out] at HS1
      obtain ⟨mx, hmm⟩ : ∃ mx, max a1 (la + hj) = mx := ⟨_, rfl⟩
      rw [hmm] at hmx HS1 ⊢
      clear hmm HMX
      have HO5 := Lib.hid (HO.out.grow HP.out)
      have HB5 := Lib.hid (HB.out.trans (HP.out.mono (Nat.le_of_lt HGB.out)))
      have c5 := HO5.out.cell (HX1.out.at hlt)
      have f5 := HO5.out.free i
      have HO6 := Lib.hid (HO5.out.set i (y := mx) ⟨by omega, by omega⟩)
      have HB6 := Lib.hid (below_set (k := i) (u := .int .i64 mx) HB5.out (Nat.le_refl g))
      generalize vs 0 = x0
      generalize vs 1 = x1
      generalize vs 2 = x2
      generalize vs 3 = x3
      generalize vs 4 = x4
      generalize vs 5 = x5
      generalize vs 6 = x6
      generalize vs 7 = x7
      generalize vs 8 = x8
      generalize vs 9 = x9
      generalize vs 10 = x10
      generalize vs 11 = x11
      generalize vs 12 = x12
      generalize vs 13 = x13
      generalize vs 14 = x14
      generalize vs 15 = x15
      generalize vs 16 = x16
      generalize vs 17 = x17
      go_wp2_with fail
      go_roundw
      case rel => exact ⟨k + 1, by omega, rfl, (by rw [HS1.out]; exact HO6), HB6⟩
      case measure => simp [intOf]; omega
     ·obtain rfl : k = r := by omega
      have hlo : ¬ (k : Int) < (k : Int) := by omega
      go_wp2_with fail
      go_roundw
      case rel => exact ⟨j, (j : Int) - 1, by omega, rfl, rfl, (by
       rw [HT.out.2]
       show Hid (Own g _ _ (htI l j (h0.set j (max (h0.getD j 0) 1)) (depRow l j j)))
       rw [HIS.out.2.2, ← HIB.out.2.2.2, HH1.out]
       have := HO
       rw [List.take_of_length_le (Nat.le_of_eq HR.out)] at this
       exact this), HB⟩
      case measure => simp [intOf]
 ·have hfl : fineF l = false := by simpa using hfl
  have e1 : depD l = [] := by unfold depD; rw [hfl]; rfl
  have e2 : depE l = 21 := by unfold depE; rw [hfl]; rfl
  have e3 : htD l = [] := by unfold htD; rw [hfl]; rfl
  rw [e1, e2] at CD
  rw [e2, e3]
  clear h hn hfl h9 e1 e2 e3 hf
  go_enter Tryd.func82, Tryd.ntmps82
  go_wp2_with (go_at_call 80; (with_reducible refine CD.out.mono ?_); rintro e1 w1 ⟨DA, dc, rfl, hd, hb1⟩)
  go_ret2
  exact RetInts.mk Own.nil hb1
end Go.Proofs.YtdiflpbioohddaaDoor
end
section
namespace Go.Proofs.YtdiflpbioohddaaDoor
open Go.RowKit
theorem RetInts.form {w w' : World} {l : List Int} {E : Int} {e : Ending} (h : RetInts w l E e w') : ∃ A c, e = .returned (.tuple #[.slice A l.length c, .int .i64 E]) ∧ Ints w' A l ∧ Below w.heap.size w w' := by
 obtain ⟨v, he, ho, hb⟩ := h
 obtain ⟨A, c, rfl, hc, hi⟩ := ho.form
 exact ⟨A, c, he, hi, hb⟩
theorem htF_in (l : List Ins) (h : l.length ≤ 512) : (htF l).length = l.length ∧ ∀ v ∈ htF l, 0 ≤ v ∧ v ≤ 2000 := by
 have := hts_in l l.length l.length (Nat.le_refl _)
 exact ⟨this.1, fun v hv => by have := this.2 v hv; omega⟩
theorem fineF_len {l : List Ins} (h : fineF l = true) : 1 ≤ l.length ∧ l.length ≤ 512 := by
 unfold fineF inB at h
 rw [Bool.and_eq_true, Bool.and_eq_true, decide_eq_true_eq, decide_eq_true_eq] at h
 omega
end Go.Proofs.YtdiflpbioohddaaDoor
end
section
namespace Go.Proofs.YtdiflpbioohddaaDoor
open Go.RowKit
def rdF (R : List Int) (N : Int) (rs : List Int) : Int := rs.foldl (fun m s => if s < 8 then max m (R.getD s.toNat 0) else m) N
def wrF (R : List Int) (v : Int) (ws : List Int) : List Int := ws.foldl (fun r s => if s < 8 then r.set s.toNat v else r) R
def tmS (t : Int × List Int) (i : Ins) : Int × List Int := (rdF t.2 t.1 i.rd + 1, wrF t.2 (rdF t.2 t.1 i.rd + 1 + delayF i.op) i.wt)
def tmF (l : List Ins) : Int × List Int := l.foldl tmS (0, List.replicate 8 0)
theorem tmF_snoc (l : List Ins) (i : Ins) : tmF (l ++ [i]) = tmS (tmF l) i := by unfold tmF; rw [List.foldl_append]; rfl
theorem rdF_snoc (R : List Int) (N : Int) (rs : List Int) (s : Int) : rdF R N (rs ++ [s]) = if s < 8 then max (rdF R N rs) (R.getD s.toNat 0) else rdF R N rs := by unfold rdF; rw [List.foldl_append]; rfl
theorem wrF_snoc (R : List Int) (v : Int) (ws : List Int) (s : Int) : wrF R v (ws ++ [s]) = if s < 8 then (wrF R v ws).set s.toNat v else wrF R v ws := by unfold wrF; rw [List.foldl_append]; rfl
theorem rdF_in {R : List Int} {B : Int} (hR : InB R 8 B) (hB : 0 ≤ B) : ∀ (rs : List Int) (N : Int), 0 ≤ N ∧ N ≤ B → N ≤ rdF R N rs ∧ rdF R N rs ≤ B
 | [], N, h => ⟨Int.le_refl _, h.2⟩
 | s :: rs, N, h => by
  have h1 := hR.getD hB s.toNat
  show N ≤ rdF R (if s < 8 then max N (R.getD s.toNat 0) else N) rs ∧ rdF R (if s < 8 then max N (R.getD s.toNat 0) else N) rs ≤ B
  split
  ·have := rdF_in hR hB rs (max N (R.getD s.toNat 0)) (by omega)
   omega
  ·exact rdF_in hR hB rs N h
theorem wrF_in {v B : Int} (hv : 0 ≤ v ∧ v ≤ B) : ∀ (ws : List Int) (R : List Int), InB R 8 B → InB (wrF R v ws) 8 B
 | [], R, h => h
 | s :: ws, R, h => by
  show InB (wrF (if s < 8 then R.set s.toNat v else R) v ws) 8 B
  split
  ·exact wrF_in hv ws _ (h.set _ hv)
  ·exact wrF_in hv ws R h
theorem tmF_in (l : List Ins) : ∀ k, (0 ≤ (tmF (l.take k)).1 ∧ (tmF (l.take k)).1 ≤ 4 * k) ∧ InB (tmF (l.take k)).2 8 (4 * k)
 | 0 => ⟨⟨Int.le_refl _, by show (0 : Int) ≤ _; omega⟩, by show (List.replicate 8 (0 : Int)).length = 8; simp, fun v hv => by rw [List.eq_of_mem_replicate hv]; omega⟩
 | k + 1 => by
  obtain ⟨h1, h2⟩ := tmF_in l k
  cases e : l[k]? with
  | none =>
   have : l.take (k + 1) = l.take k := by
    have := List.getElem?_eq_none_iff.1 e
    rw [List.take_of_length_le (by omega), List.take_of_length_le (by omega)]
   rw [this]
   exact ⟨by omega, h2.le (by omega)⟩
  | some i =>
   rw [take_snoc' e, tmF_snoc]
   have h3 := rdF_in h2 (by omega) i.rd _ h1
   have h4 := delayF_in i.op
   exact ⟨by show 0 ≤ rdF _ _ _ + 1 ∧ rdF _ _ _ + 1 ≤ _; omega, wrF_in (by omega) _ _ (h2.le (by omega))⟩
theorem rd_nat (i : Ins) : ∀ s ∈ i.rd, 0 ≤ s := fun s hs => by
 unfold Ins.rd at hs
 by_cases hf : i.formed = true
 ·rw [if_pos hf] at hs
  obtain ⟨h1, h2, h3, h4⟩ := formed_parts hf
  split at hs <;> simp only [List.mem_cons, List.not_mem_nil, or_false] at hs <;> omega
 ·rw [if_neg hf] at hs; simp at hs
theorem wt_nat (i : Ins) : ∀ s ∈ i.wt, 0 ≤ s := fun s hs => by
 unfold Ins.wt at hs
 by_cases hf : i.formed = true
 ·rw [if_pos hf] at hs
  obtain ⟨h1, h2, h3, h4⟩ := formed_parts hf
  split at hs <;> simp only [List.mem_cons, List.not_mem_nil, or_false] at hs <;> omega
 ·rw [if_neg hf] at hs; simp at hs
def cycF (l : List Ins) : Int := if fineF l then (tmF l).1 else 0
def stlF (l : List Ins) : Int := if fineF l then (tmF l).1 - l.length else 0
def RetTime (w : World) (l : List Ins) (e : Ending) (w' : World) : Prop := e = .returned (.tuple #[.int .i64 (cycF l), .int .i64 (stlF l), .int .i64 (depE l)]) ∧ Below w.heap.size w w'
def BoxI (w : World) (g : Nat) (R : List Int) : Prop := Box w g (R.map (Value.int .i64))
theorem BoxI.cell {w : World} {g : Nat} {R : List Int} {n : Nat} {B : Int} (h : BoxI w g R) (hb : InB R n B) {s : Nat} (hs : s < n) : w.cell? ⟨g, s, none⟩ = some (.int .i64 (R.getD s 0)) ∧ w.frozen? ⟨g, s, none⟩ = false :=
 ⟨(h.2.1 s).trans (by rw [List.getElem?_map, hb.at hs]; rfl), h.2.2 s⟩
theorem BoxI.set {w : World} {g : Nat} {R : List Int} {n : Nat} {B : Int} (h : BoxI w g R) (hb : InB R n B) {s : Nat} (hs : s < n) (v : Int) : BoxI (w.setCell ⟨g, s, none⟩ (.int .i64 v)) g (R.set s v) := by
 have := Box.set (u := Value.int .i64 v) h (k := s) (by rw [List.length_map, hb.1]; exact hs)
 rw [← List.map_set] at this
 exact this
theorem ins_opA {w : World} {A : Option Addr} {l : List Ins} (h : InsAt w A l) {k : Nat} {i : Ins} (hk : l[k]? = some i) {ad : Addr} (hA : A = some ad) : w.cell? (ad.add (k * 4)) = some (.int .i64 i.op) := by
 obtain ⟨ad2, e, hs, hb, hr, -⟩ := h k i hk
 rw [hA] at e
 obtain rfl : ad = ad2 := Option.some.inj e
 exact (ins_cells hs hr).1
end Go.Proofs.YtdiflpbioohddaaDoor
end
section
namespace Go.Proofs.YtdiflpbioohddaaDoor
open Go.RowKit
def builtS (P : Program) (e : TypeId) (len : Nat) (parts : List (Nat × Value)) : Option (Array Value) :=
 match P.info? e with
 | some ie => match ie.zero with
  | some z => Instr.fill (fun i => some (i * ie.size, ie.size)) ((Array.range (len * ie.size)).map (z.cells[· % z.cells.size]!)) parts
  | none => none
 | none => none
theorem run_bldS {P : Program} (w : World) (t e : TypeId) (len : Nat) (parts : Array (Nat × Value)) (cells : Array Value) (hu : P.underlying t = some (.slice e)) (n : Nat) (hn : (P.info? e).map (·.size) = some n) (hl : len * n ≤ 2 ^ 24) (h0 : len * n ≠ 0) (h : builtS P e len parts.toList = some cells) :
  (Instr.buildSlice t len parts).run P w = .ok (.slice (some ⟨w.heap.size, 0, none⟩) len len) (w.alloc (.cells cells e)) := by
 unfold builtS at h
 cases hi : P.info? e with
 | none => simp [hi] at h
 | some ie =>
  cases hz : ie.zero with
  | none => simp [hi, hz] at h
  | some z =>
   simp only [hi, hz] at h
   have hs : ie.size = n := by simpa [hi] using hn
   subst hs
   have hl' : ¬ (2 ^ 24 < len * ie.size) := by omega
   simp [Instr.buildSlice, run_underlying hu, sizeOf, typeInfo, zeroValue, hi, hz, hl', h0, h]
   simp [go_sem]
theorem wp_bldS {ops : Array Oper} {rest : List Oper} {o : Oper} {a : Act} {Q : Exit → Act → World → Prop} {w : World} (hgd : o.guard = none) (ty e : TypeId) (len : Nat) (parts : Array (Nat × Operand)) (ho : o.op = .buildSlice ty len parts) (hu : Tryd.prog.underlying ty = some (.slice e)) (n : Nat) (hn : (Tryd.prog.info? e).map (·.size) = some n) (hl : len * n ≤ 2 ^ 24) (h0 : len * n ≠ 0)
  (ps : List (Nat × Value)) (hp : parts.toList.map (fun p => (p.1, a.eval p.2)) = ps) {cells : Array Value} (hb : builtS Tryd.prog e len ps = some cells)
  (h : wpList Tryd.prog ops Q rest (a.put o.dst (.slice (some ⟨w.heap.size, 0, none⟩) len len)) (w.alloc (.cells cells e))) : wpList Tryd.prog ops Q (o :: rest) a w := by
 have e1 : (parts.map fun (i, x) => (i, a.eval x)).toList = ps := by rw [Array.toList_map]; exact hp
 refine wpList_plain hgd fun _ hK => ?_
 unfold Oper.wp execOp
 simp only [ho, Sem.run_bind, run_bldS w ty e len _ cells hu n hn hl h0 (by rw [e1]; exact hb), Result.andThen_ok]
 exact hK _ _ h
end Go.Proofs.YtdiflpbioohddaaDoor
end
section
namespace Go.Proofs.YtdiflpbioohddaaDoor
open Go.RowKit
def encI (i : Ins) : List Int := [i.op, i.a, i.b, i.imm]
theorem flatI_get {l : List Ins} {k j : Nat} {i : Ins} (h : l[k]? = some i) (hj : j < 4) : ((l.flatMap encI).map (Value.int .i64))[k * 4 + j]? = i.cells[j]? := by
 rw [List.getElem?_map, flat_get (enc := encI) (sz := 4) (fun _ => rfl) l k j i h hj, ← List.getElem?_map]; rfl
theorem InsAt.row {w : World} {A : Option Addr} {l : List Ins} (h : InsAt w A l) : ∀ j u, ((l.flatMap encI).map (Value.int .i64))[j]? = some u → ∃ ad, A = some ad ∧ w.cell? (ad.add j) = some u := fun j u hu => by
 have hj : j < l.length * 4 := by
  have := (List.getElem?_eq_some_iff.1 hu).1
  rw [List.length_map, flat_length (enc := encI) (sz := 4) (fun _ => rfl)] at this
  exact this
 have hk : j / 4 < l.length := by omega
 have ht : l[j / 4]? = some l[j / 4] := List.getElem?_eq_getElem hk
 obtain ⟨ad, e, hs, -, hr, -⟩ := h _ _ ht
 refine ⟨ad, e, ?_⟩
 have ej : j = j / 4 * 4 + j % 4 := by omega
 rw [ej, flatI_get ht (by omega)] at hu
 rw [add_noneI hs, show ad.off + j = ad.off + j / 4 * 4 + j % 4 by omega]
 exact hr (j % 4) u hu
theorem InsAt.grown {w w' : World} {A : Option Addr} {l : List Ins} {r : Option Nat} (h : InsAt w A l) (hg : w.grownBy w' r) (hn : ∀ a, A = some a → some a.block ≠ r) : InsAt w' A l := fun k i hk => by
 obtain ⟨ad, e, h1, h2, h3, h4⟩ := h k i hk
 exact ⟨ad, e, h1, Nat.lt_of_lt_of_le h2 hg.size, fun j v hj => hg.cell (h3 j v hj) (hn ad e), h4⟩
theorem nums_one {l : List Int} : ∀ u ∈ l.map (Value.int .i64), u.oneCell' = true := fun u hu => by
 obtain ⟨x, _, rfl⟩ := List.mem_map.1 hu; rfl
theorem info_ins : (Tryd.prog.info? 109).map (fun i => (i.zero, i.size, i.bytes)) = some (some (.agg #[.int .i64 0, .int .i64 0, .int .i64 0, .int .i64 0]), 4, 32) := by kernel_rfl
theorem und_ins : Tryd.prog.underlying 39 = some (.slice 109) := Tryd.underlying39
theorem built_ins1 (i : Ins) : builtS Tryd.prog 109 1 [(0, i.v)] = some (i.cells.toArray) := by kernel_rfl
def OwnIR (base : Nat) (w : World) (v : Value) (l : List Ins) : Prop := w.ownsRow base 109 4 v l.length ((l.flatMap encI).map (Value.int .i64)) ∧ ∀ i ∈ l, i.ok
theorem OwnIR.nil {base : Nat} {w : World} : OwnIR base w (.slice none 0 0) [] := ⟨World.ownsRow_nil _ _ _ _, by simp⟩
theorem OwnIR.grow {base : Nat} {w w' : World} {v : Value} {l : List Ins} (h : OwnIR base w v l) (hb : Below w.heap.size w w') : OwnIR base w' v l := ⟨own_grow h.1 hb, h.2⟩
theorem OwnIR.base {base base' : Nat} {w : World} {v : Value} {l : List Ins} (h : OwnIR base w v l) (hb : base' ≤ base) : OwnIR base' w v l := ⟨own_base h.1 hb, h.2⟩
theorem OwnIR.store {base g k : Nat} {w : World} {v u : Value} {l : List Ins} (h : OwnIR base w v l) (hg : g < base) : OwnIR base (w.setCell ⟨g, k, none⟩ u) v l := ⟨own_store h.1 hg, h.2⟩
theorem OwnIR.ge {base : Nat} {w : World} {v : Value} {l : List Ins} (h : OwnIR base w v l) : ∀ k, v.ownBlock = some k → base ≤ k := fun k hk => (h.1.lt k hk).1
theorem OwnIR.form {base : Nat} {w : World} {v : Value} {l : List Ins} (h : OwnIR base w v l) : ∃ A c, v = .slice A l.length c ∧ l.length ≤ c ∧ InsAt w A l := by
 obtain ⟨A, c, rfl, hc⟩ := own_form h.1
 refine ⟨A, c, rfl, hc, fun k i hk => ?_⟩
 have hc4 : ∀ j v, i.cells[j]? = some v → ∃ g, A = some ⟨g, 0, none⟩ ∧ g < w.heap.size ∧ w.cell? ⟨g, k * 4 + j, none⟩ = some v := fun j v hj => by
  have hj4 : j < 4 := (List.getElem?_eq_some_iff.1 hj).1
  obtain ⟨g, e0, hg, d0⟩ := own_cells h.1 (k := k * 4 + j) (v := v) (by rw [flatI_get hk hj4]; exact hj)
  exact ⟨g, e0, hg, d0⟩
 obtain ⟨g, e0, hg, d0⟩ := hc4 0 _ rfl
 refine ⟨⟨g, 0, none⟩, e0, rfl, hg, fun j v hj => ?_, h.2 i (List.mem_of_getElem? hk)⟩
 obtain ⟨g1, e1, hg1, d1⟩ := hc4 j v hj
 rw [e0] at e1
 injection e1 with e1; injection e1 with e1
 subst e1
 rw [show (⟨g, 0, none⟩ : Addr).off + k * 4 + j = k * 4 + j by show 0 + k * 4 + j = _; omega]
 exact d1
theorem OwnIR.single {w : World} {i : Ins} (hi : i.ok) : OwnIR w.heap.size (w.alloc (.cells i.cells.toArray 109)) (.slice (some ⟨w.heap.size, 0, none⟩) 1 1) [i] :=
 ⟨World.ownsRow_lit w i.cells.toArray 1 (Nat.le_refl _) (by unfold maxLen; omega) (by kernel_rfl), fun x hx => by rw [List.mem_singleton.1 hx]; exact hi⟩
theorem app_ins {ops : Array Oper} {rest : List Oper} {o : Oper} {a : Act} {Q : Exit → Act → World → Prop} (w : World) (hg : o.guard = none) (s x : Operand) (ho : o.op = .call { callee := .builtin .append, args := #[s, x], argTypes := #[39, 39] })
  (base : Nat) {v : Value} {l m : List Ins} {A : Option Addr} {n c : Nat} (hs : a.eval s = v) (hx : a.eval x = .slice A n c) (hown : OwnIR base w v l) (hI : InsAt w A m) (hm : m.length = n) (hn : l.length + n ≤ 100000000) (hbase : base ≤ w.heap.size)
  (h : ∀ v' w', OwnIR base w' v' (l ++ m) → Below base w w' → wpList Tryd.prog ops Q rest (a.put o.dst v') w') : wpList Tryd.prog ops Q (o :: rest) a w := by
 subst hm
 refine app_row w hg s x 39 109 (.agg #[.int .i64 0, .int .i64 0, .int .i64 0, .int .i64 0]) 4 32 ho und_ins info_ins rfl (by decide) (by decide) base hs hx hown.1 (ys := (m.flatMap encI).map (Value.int .i64)) ?_ hI.row nums_one hn hbase fun v' w' h1 h2 h3 => h v' w' ⟨?_, ?_⟩ (own_below (Below.refl _ _) hbase hown.ge h2)
 ·rw [List.length_map, flat_length (enc := encI) (sz := 4) (fun _ => rfl)]
 ·rw [List.flatMap_append, List.map_append, List.length_append]; exact h1
 ·intro i hi
  rcases List.mem_append.1 hi with hi | hi
  ·exact hown.2 i hi
  ·exact hI.ok i hi
theorem mk_ins0 {ops : Array Oper} {rest : List Oper} {o : Oper} {a : Act} {Q : Exit → Act → World → Prop} {w : World} (hg : o.guard = none) (s c : Operand) (hop : o.op = Op.makeSlice 39 s c)
  (base n : Nat) {N : Int} (hs : a.eval s = .int .i64 0) (hc : a.eval c = .int .i64 N) (hN : N = (n : Int)) (hn : n ≤ 100000000) (hb : base ≤ w.heap.size)
  (h : ∀ w', OwnIR base w' (.slice (some ⟨w.heap.size, 0, none⟩) 0 n) [] → Below w.heap.size w w' → wpList Tryd.prog ops Q rest (a.put o.dst (.slice (some ⟨w.heap.size, 0, none⟩) 0 n)) w') :
  wpList Tryd.prog ops Q (o :: rest) a w := by
 subst hN
 obtain ⟨i0, hi, hz0, hz1, hz2⟩ := info_parts info_ins
 refine wpList_make_own w hg s c 39 hop base 109 i0 (.agg #[.int .i64 0, .int .i64 0, .int .i64 0, .int .i64 0]) 4 und_ins hi hz0 hz1 .i64 .i64 n n hs hc rfl (by rw [hz2]; omega) (by unfold maxLen; omega) hb fun w' h1 h2 => h w' ⟨h1, by simp⟩ ((Below.refl _ _).grown h2 (Nat.le_refl _) (by intro k hk; cases hk))
theorem bld_ins1 {ops : Array Oper} {rest : List Oper} {o : Oper} {a : Act} {Q : Exit → Act → World → Prop} {w : World} {i : Ins} (hgd : o.guard = none) (x : Operand) (ho : o.op = .buildSlice 39 1 #[(0, x)]) (hx : a.eval x = i.v)
  (h : wpList Tryd.prog ops Q rest (a.put o.dst (.slice (some ⟨w.heap.size, 0, none⟩) 1 1)) (w.alloc (.cells i.cells.toArray 109))) : wpList Tryd.prog ops Q (o :: rest) a w :=
 wp_bldS hgd 39 109 1 _ ho und_ins 4 size_ins (by decide) (by decide) _ rfl (by show builtS Tryd.prog 109 1 [(0, a.eval x)] = _; rw [hx]; exact built_ins1 i) h
end Go.Proofs.YtdiflpbioohddaaDoor
end
