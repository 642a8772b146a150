/- Heights of package schedule and of the reference. Printed by gen_e13.py. -/
import Derived.Test.YtpmbgcfnehplaaaDoorE12
import Derived.Lib.MinMax
set_option linter.unusedVariables false
set_option linter.unusedSimpArgs false
namespace Go.Proofs.YtpmbgcfnehplaaaDoor
open Go.RowKit

/-- What the rows of instruction j add. -/
def htS (l : List Ins) (j : Nat) (h : List Int) (i : Int) : List Int := h.set i.toNat (max (h.getD i.toNat 0) (latP l i.toNat j + h.getD j 0))
def htI (l : List Ins) (j : Nat) (h : List Int) (is : List Int) : List Int := is.foldl (htS l j) h
def htJ (l : List Ins) (j : Nat) (h : List Int) : List Int := htI l j (h.set j (max (h.getD j 0) 1)) (depRow l j j)
def hts (l : List Ins) (n : Nat) : Nat → List Int
  | 0 => List.replicate n 0
  | k + 1 => htJ l (n - 1 - k) (hts l n k)
def htF (l : List Ins) : List Int := hts l l.length l.length
def htD (l : List Ins) : List Int := if fineF l then htF l else []
theorem hts_step {l : List Ins} {n j : Nat} (h : j < n) : hts l n (n - j) = htJ l j (hts l n (n - (j + 1))) := by
  rw [show n - j = n - (j + 1) + 1 by omega]
  show htJ l (n - 1 - (n - (j + 1))) _ = _
  rw [show n - 1 - (n - (j + 1)) = j by omega]
def InB (h : List Int) (n : Nat) (B : Int) : Prop := h.length = n ∧ ∀ v ∈ h, 0 ≤ v ∧ v ≤ B
theorem InB.getD {h : List Int} {n : Nat} {B : Int} (hb : InB h n B) (hB : 0 ≤ B) (i : Nat) : 0 ≤ h.getD i 0 ∧ h.getD i 0 ≤ B := by
  rw [List.getD_eq_getElem?_getD]
  cases e : h[i]? with
  | none => exact ⟨Int.le_refl _, hB⟩
  | some v => exact hb.2 v (List.mem_of_getElem? e)
theorem InB.at {h : List Int} {n : Nat} {B : Int} (hb : InB h n B) {i : Nat} (hi : i < n) : h[i]? = some (h.getD i 0) := by
  rw [List.getD_eq_getElem?_getD, List.getElem?_eq_getElem (by rw [hb.1]; exact hi)]; rfl
theorem InB.set {h : List Int} {n : Nat} {B v : Int} (hb : InB h n B) (i : Nat) (hv : 0 ≤ v ∧ v ≤ B) : InB (h.set i v) n B := by
  refine ⟨by rw [List.length_set]; exact hb.1, fun x hx => ?_⟩
  rcases List.mem_or_eq_of_mem_set hx with h1 | h1
  · exact hb.2 x h1
  · rw [h1]; exact hv
theorem InB.le {h : List Int} {n : Nat} {B C : Int} (hb : InB h n B) (hc : B ≤ C) : InB h n C := ⟨hb.1, fun v hv => by have := hb.2 v hv; omega⟩
theorem htS_in {l : List Ins} {j n : Nat} {h : List Int} {i : Int} {B : Int} (hb : InB h n B) (hj : 0 ≤ h.getD j 0 ∧ h.getD j 0 + 3 ≤ B) (hi : 0 ≤ i ∧ i < j) :
    InB (htS l j h i) n B ∧ (htS l j h i).getD j 0 = h.getD j 0 := by
  have h1 := hb.getD (by omega) i.toNat
  have h2 := latP_in l i.toNat j
  refine ⟨hb.set _ (by omega), ?_⟩
  unfold htS
  rw [List.getD_eq_getElem?_getD, List.getElem?_set_ne (by omega), ← List.getD_eq_getElem?_getD]
theorem htI_in {l : List Ins} {j n : Nat} {B : Int} : ∀ (is : List Int) (h : List Int), InB h n B → (0 ≤ h.getD j 0 ∧ h.getD j 0 + 3 ≤ B) → (∀ i ∈ is, 0 ≤ i ∧ i < (j : Int)) →
    InB (htI l j h is) n B ∧ (htI l j h is).getD j 0 = h.getD j 0
  | [], h, hb, _, _ => ⟨hb, rfl⟩
  | i :: is, h, hb, hj, hi => by
    obtain ⟨h1, h2⟩ := htS_in (l := l) hb hj (hi i (List.mem_cons_self ..))
    obtain ⟨h3, h4⟩ := htI_in is (htS l j h i) h1 (by rw [h2]; exact hj) (fun x hx => hi x (List.mem_cons_of_mem _ hx))
    exact ⟨h3, h4.trans h2⟩
theorem depRow_in {l : List Ins} {j m : Nat} : ∀ i ∈ depRow l j m, 0 ≤ i ∧ i < (m : Int) := fun i hi => by
  obtain ⟨k, h1, h2, -⟩ := depRow_mem hi
  omega
theorem hts_in (l : List Ins) (n : Nat) : ∀ k, k ≤ n → InB (hts l n k) n (3 * k + 1)
  | 0, _ => ⟨by simp [hts], fun v hv => by rw [List.eq_of_mem_replicate hv]; omega⟩
  | k + 1, hk => by
    have h := hts_in l n k (by omega)
    have h1 := h.getD (by omega) (n - 1 - k)
    have h2 : InB ((hts l n k).set (n - 1 - k) (max ((hts l n k).getD (n - 1 - k) 0) 1)) n (3 * (k + 1 : Nat) + 1) := (h.le (by omega)).set _ (by omega)
    refine (htI_in _ _ h2 ?_ (fun i hi => ?_)).1
    · rw [List.getD_eq_getElem?_getD, List.getElem?_set_self (by rw [h.1]; omega)]
      show 0 ≤ max _ _ ∧ max _ _ + 3 ≤ _
      omega
    · exact depRow_in i hi
theorem htI_snoc {l : List Ins} {j : Nat} {h is : List Int} {k : Nat} {i : Int} (hi : is[k]? = some i) : htI l j h (is.take (k + 1)) = htS l j (htI l j h (is.take k)) i := by
  rw [take_snoc' hi]
  unfold htI
  rw [List.foldl_append]; rfl
theorem getD_setS {h : List Int} {n j : Nat} {v : Int} (hl : h.length = n) (hj : j < n) : (h.set j v).getD j 0 = v := by
  rw [List.getD_eq_getElem?_getD, List.getElem?_set_self (by omega)]; rfl
set_option maxRecDepth 100000 in
set_option maxHeartbeats 8000000 in
theorem sc_Heights (A : Option Addr) (n c : Nat) (l : List Ins) (w : World) (hf : FormsAt w) (h : InsAt w A l) (hn : l.length = n) (h9 : n ≤ 9223372036854775807) : Calls Tryd.prog 26 #[.slice A n c] w (RetInts w (htD l) (depE l)) := by
  have CD := Lib.hid (sc_Depends A n c l w hf h hn h9)
  by_cases hfl : fineF l = true
  · have hn512 : n ≤ 512 := by
      unfold fineF inB at hfl
      rw [Bool.and_eq_true, Bool.and_eq_true, decide_eq_true_eq, decide_eq_true_eq, hn] at hfl
      omega
    have e1 : depD l = depsF l := by unfold depD; rw [if_pos hfl]
    have e2 : depE l = 0 := by unfold depE; rw [if_pos hfl]
    have e3 : htD l = hts l n n := by unfold htD htF; rw [if_pos hfl, hn]
    have e4 : (depsF l).length = n := by unfold depsF; rw [depT_length, hn]
    have HAT : Hid (∀ j, j < n → (depsF l)[j]? = some (depRow l j j)) := fun j hj => by
      unfold depsF; rw [hn, depT_at hj, if_pos hj]
    rw [e1, e2] at CD
    rw [e2, e3]
    have HE4 := Lib.hid e4
    have HI := Lib.hid h
    have HN := Lib.hid hn
    have CU : Hid (∀ w1, Below w.heap.size w w1 → Calls Tryd.prog 34 #[.slice A n c] w1 fun e w' => ∃ UA uc, e = .returned (.tuple #[.slice UA n uc, .int .i64 0]) ∧ UsesAt w' UA l ∧ Below w1.heap.size w1 w') := fun w1 hb => by
      refine (sc_uses A n c l w1 (hf.grow hb) (HI.out.grow hb) HN.out h9).mono ?_
      rintro e w' ⟨⟨UA, uc, he, hu⟩, hb⟩
      unfold depE at he
      rw [if_pos hfl, if_pos hfl, HN.out] at he
      exact ⟨UA, uc, he, hu hfl, hb⟩
    clear hf
    clear h hn hfl h9 e1 e2 e3 e4
    go_enter Tryd.func26, Tryd.ntmps26
    go_upto_region 4 with (go_at_call 28; (with_reducible refine CD.out.mono ?_); rintro e1 w1 ⟨DA, dc, rfl, hd, hb1⟩)
    rw [HE4.out]
    go_upto_region 5 with (go_at_call 34; (with_reducible refine (CU.out _ hb1).mono ?_); rintro e1 w2 ⟨UA, uc, rfl, hu, hb2⟩)
    have HU := Lib.hid hu
    have HD := Lib.hid (hd.grow hb2)
    have HB0 := Lib.hid (below_then hb1 hb2)
    clear hu hb2 hd hb1
    have HI0 := Lib.hid (HI.out.grow HB0.out)
    clear HI CD CU
    go_upto_region 6 with ((with_reducible show wpList _ _ _ (Oper.mk (some 27) _ _ _ _ _ :: _) _ _); refine mk_int rfl _ _ rfl w2.heap.size n rfl rfl rfl (by omega) (Nat.le_refl _) ?_; intro w3 ho3 hb3)
    have HO3 : Hid (Own w2.heap.size w3 (.slice (some ⟨w2.heap.size, 0, none⟩) n n) (hts l n (n - n))) := by rw [Nat.sub_self]; exact ho3
    have HB3 := Lib.hid hb3
    have HG : Hid (∃ g, w2.heap.size = g) := ⟨_, rfl⟩
    obtain ⟨g, hg⟩ := HG.out
    have HGG := Lib.hid hg
    rw [hg] at HO3 HB3 ⊢
    clear ho3 hb3 hg HG
    have wn : IntKind.i64.wrap ((n : Int) - 1) = (n : Int) - 1 := IntWalk.i64_in _ (by omega)
    go_wp2_with fail
    go_loopw [9] (fun x wr => ∃ (t : Nat) (v : Int), t ≤ n ∧ v = (t : Int) - 1 ∧ x = .int .i64 v ∧ Hid (Own g wr (.slice (some ⟨g, 0, none⟩) n n) (hts l n (n - t))) ∧ Hid (Below g w2 wr)) (fun x _ => (intOf x + 1).toNat)
    case atStart => exact ⟨n, _, Nat.le_refl _, rfl, rfl, HO3, HB3⟩
    case round =>
      obtain ⟨t, v, ht, hv, rfl, HO, HB⟩ := hrel
      cases t with
      | zero =>
        obtain rfl : v = -1 := by omega
        clear hv
        go_wp2_with fail
        go_ret2
        exact RetInts.mk (HO.out.base (HGG.out ▸ HB0.out.size)) (below_then HB0.out (HGG.out ▸ HB.out))
      | succ j =>
        obtain rfl : v = (j : Int) := by omega
        clear hv
        have HT : Hid (j < n ∧ hts l n (n - j) = htJ l j (hts l n (n - (j + 1)))) := ⟨by omega, hts_step (by omega)⟩
        have HIN := Lib.hid (hts_in l n (n - (j + 1)) (by omega))
        obtain ⟨h0, hh0⟩ : ∃ h0, hts l n (n - (j + 1)) = h0 := ⟨_, rfl⟩
        rw [hh0] at HO HIN HT
        clear hh0
        have hj0 : 0 ≤ h0.getD j 0 ∧ h0.getD j 0 ≤ 3 * 512 := by have := HIN.out.getD (by omega) j; omega
        have c0 := HO.out.cell (HIN.out.at HT.out.1)
        have f0 := HO.out.free j
        obtain ⟨a0, ha0⟩ : ∃ a0, h0.getD j 0 = a0 := ⟨_, rfl⟩
        have HA0 := Lib.hid ha0
        rw [ha0] at hj0 c0
        clear ha0
        have q1 : (0 : Int) ≤ (j : Int) := by omega
        have q2 : (j : Int) < (n : Int) := by omega
        have wj : IntKind.i64.wrap ((j : Int) - 1) = (j : Int) - 1 := IntWalk.i64_in _ (by omega)
        go_upto_region 10 with fail
        have hm0 : 0 ≤ max a0 1 ∧ max a0 1 ≤ 3 * 512 := by omega
        obtain ⟨hj, hhj⟩ : ∃ hj, max a0 1 = hj := ⟨_, rfl⟩
        have HHJ := Lib.hid hhj
        rw [hhj] at hm0 ⊢
        clear hhj c0 f0 hj0
        have HO1 := Lib.hid (HO.out.set j (y := hj) ⟨by omega, by omega⟩)
        have HB1 := Lib.hid (below_set (k := j) (u := .int .i64 hj) HB.out (Nat.le_refl g))
        have HIB : Hid (InB (h0.set j hj) n (3 * 512 + 10) ∧ (h0.set j hj).getD j 0 = hj ∧ (0 ≤ hj ∧ hj + 3 ≤ 3 * 512 + 10) ∧ hj = max (h0.getD j 0) 1) := ⟨(HIN.out.le (by omega)).set _ (by omega), getD_setS HIN.out.1 HT.out.1, by omega, by rw [HA0.out]; exact HHJ.out.symm⟩
        generalize wr.setCell ⟨g, j, none⟩ (.int .i64 hj) = wa at HO1 HB1 ⊢
        clear HO HB HHJ HA0
        obtain ⟨h1, hh1⟩ : ∃ h1, h0.set j hj = h1 := ⟨_, rfl⟩
        have HH1 := Lib.hid hh1
        rw [hh1] at HO1 HIB
        clear hh1 HIN
        have hdr := (HD.out.grow (HGG.out ▸ HB1.out)) j _ (HAT.out j HT.out.1)
        obtain ⟨dd, RB, rc, rfl, hdb, hdc, hri⟩ := hdr
        have HRI : Hid (Ints w2 RB (depRow l j j)) := by
          obtain ⟨dd2, RB2, rc2, e2, hdb2, hdc2, hri2⟩ := HD.out j _ (HAT.out j HT.out.1)
          obtain rfl : dd = dd2 := Option.some.inj e2
          have := (HGG.out ▸ HB1.out : Below w2.heap.size w2 wa).cell (p := dd.add j) (by rw [block_add]; exact hdb2)
          rw [hdc2, hdc] at this
          injection this with this
          injection this with this
          subst this
          exact hri2
        have HDC : Hid (∀ w', Below g w2 w' → w'.cell? (dd.add j) = some (.slice RB (depRow l j j).length rc)) := fun w' hb => by
          obtain ⟨dd2, RB2, rc2, e2, hdb2, hdc2, hri2⟩ := HD.out j _ (HAT.out j HT.out.1)
          obtain rfl : dd = dd2 := Option.some.inj e2
          rw [← hdc]
          exact ((HGG.out ▸ hb : Below w2.heap.size w2 w').cell (p := dd.add j) (by rw [block_add]; exact hdb2)).trans ((HGG.out ▸ HB1.out : Below w2.heap.size w2 wa).cell (p := dd.add j) (by rw [block_add]; exact hdb2)).symm
        clear hri hdb
        obtain ⟨is, his⟩ : ∃ is, depRow l j j = is := ⟨_, rfl⟩
        have HIS : Hid ((∀ i ∈ is, 0 ≤ i ∧ i < (j : Int)) ∧ is.length ≤ j ∧ depRow l j j = is) := by subst his; exact ⟨depRow_in, depRow_len l j j, rfl⟩
        rw [his] at HRI HDC hdc
        clear his
        obtain ⟨r, hr⟩ : ∃ r, is.length = r := ⟨_, rfl⟩
        have HR := Lib.hid hr
        have hrj : r ≤ j := by rw [← hr]; exact HIS.out.2.1
        rw [hr] at HDC hdc
        clear hr
        obtain ⟨wo, hwo⟩ : ∃ wo : World, wo = wr := ⟨_, rfl⟩
        go_wp2_with fail
        go_loopw [48] (fun x wr => ∃ k : Nat, k ≤ r ∧ x = .int .i64 k ∧ Hid (Own g wr (.slice (some ⟨g, 0, none⟩) n n) (htI l j h1 (is.take k))) ∧ Hid (Below g w2 wr)) (fun x _ => r - (intOf x).toNat)
        case atStart => exact ⟨0, Nat.zero_le _, rfl, HO1, HB1⟩
        case round =>
          obtain ⟨k, hk, rfl, HO, HB⟩ := hrel
          have hdc := HDC.out _ HB.out
          by_cases hkr : k < r
          · obtain ⟨rd, iv, rfl, hrb, hiv, hrc, -, -⟩ := (HRI.out.grow (HGG.out ▸ HB.out)).at_ (k := k) (by rw [HR.out]; exact hkr)
            have hii := HIS.out.1 iv (List.mem_of_getElem? hiv)
            obtain ⟨i, rfl⟩ : ∃ i : Nat, iv = (i : Int) := ⟨iv.toNat, by omega⟩
            have HST := Lib.hid (htI_snoc (l := l) (j := j) (h := h1) hiv)
            obtain ⟨hx1, hx2⟩ := htI_in (l := l) (j := j) (is.take k) h1 HIB.out.1 (by rw [HIB.out.2.1]; exact HIB.out.2.2.1) (fun i hi => HIS.out.1 i (List.mem_of_mem_take hi))
            rw [HIB.out.2.1] at hx2
            obtain ⟨hc, hhc⟩ : ∃ hc, htI l j h1 (is.take k) = hc := ⟨_, rfl⟩
            rw [hhc] at HO HST hx1 hx2
            clear hhc
            have hlt : i < n := by omega
            have c1 := HO.out.cell (hx1.at hlt)
            have c2 := HO.out.cell (hx1.at HT.out.1)
            rw [hx2] at c2
            have hl1 := hx1.getD (by omega) i
            have hl2 := latP_in l i j
            have hll : hx1.1 = hx1.1 := rfl
            have HGB : Hid (g < wr.heap.size) := HO.out.block.2
            have HSS : Hid (htS l j hc (i : Int) = hc.set i (max (hc.getD i 0) (latP l i j + hj))) := by
              show hc.set _ _ = _
              rw [Int.toNat_natCast, hx2]
            clear hll hiv hrb
            obtain ⟨a1, ha1⟩ : ∃ a1, hc.getD i 0 = a1 := ⟨_, rfl⟩
            obtain ⟨la, hla⟩ : ∃ la, latP l i j = la := ⟨_, rfl⟩
            have CL : Hid (∀ w', Below wr.heap.size wr w' → Calls Tryd.prog 43 #[.slice A n c, .slice UA n uc, .int .i64 i, .int .i64 j] w' fun e w'' => e = .returned (.int .i64 la) ∧ Below w'.heap.size w' w'') := fun w' hb => by
              rw [← hla]
              exact sc_latency A UA n c uc l i j w' (HI0.out.grow (below_then (HGG.out ▸ HB.out) hb)) (HU.out.grow (below_then (HGG.out ▸ HB.out) hb)) HN.out hn512 hlt HT.out.1
            rw [ha1, hla] at HSS
            rw [ha1] at hl1 c1
            rw [hla] at hl2
            have HS1 := Lib.hid (HST.out.trans HSS.out)
            have HX1 := Lib.hid hx1
            have C1 := Lib.hid c1
            have C2 := Lib.hid c2
            clear ha1 hla hx1 hx2 HST HSS c1 c2
            have p1 : (0 : Int) ≤ (k : Int) := by omega
            have p2 : (k : Int) < (r : Int) := by omega
            have wk : IntKind.i64.wrap ((k : Int) + 1) = ((k + 1 : Nat) : Int) := (IntWalk.i64_in _ (by omega)).trans (by omega)
            have p3 : (0 : Int) ≤ (i : Int) := by omega
            have p4 : (i : Int) < (n : Int) := by omega
            have wl : IntKind.i64.wrap (la + hj) = la + hj := IntWalk.i64_in _ (by omega)
            go_upto_region 13 with fail
            refine wp_region_grow8 (fun x => Nat.blt x 18) (fun _ => false) (fun w2 => Below wr.heap.size wr w2) (fun a b => Below a.heap.size a b) (dF 0 [.v (.slice (some ⟨g, 0, none⟩) n n), .v (.int .i64 (i : Int)), .v (.slice (some ⟨g, 0, none⟩) n n), .v (.int .i64 (i : Int)), .v (.pointer (some ⟨g, i, none⟩)), .v (.int .i64 (a1 : Int)), .v (.slice A n c), .v (.slice UA n uc), .v (.int .i64 (i : Int)), .v (.int .i64 (j : Int)), .v (.int .i64 (la : Int)), .v (.slice (some ⟨g, 0, none⟩) n n), .v (.int .i64 (j : Int)), .v (.pointer (some ⟨g, j, none⟩)), .v (.int .i64 (hj : Int)), .v (.int .i64 (la + hj : Int)), .v (.int .i64 (max a1 (la + hj) : Int)), .v (.pointer (some ⟨g, i, none⟩))]) (by kernel_rfl) (by kernel_rfl) (Below.drew (Below.refl _ _)) (fun a b h1 h2 => ⟨below_then h1 h2, fun i _ v => dF_keep h2 i v⟩) (fun w _ => Below.refl _ _) ?_ (fun j o _ _ h => by cases h) ?_
            · refine ⟨?_, ?_, ?_, ?_, ?_, ?_, ?_, ?_, ?_, ?_, ?_, ?_, ?_, ?_, ?_, ?_, ?_, ?_, trivial⟩
              all_goals
                intro vs w5 hp hF
                have z1 : w5.cell? ⟨g, i, none⟩ = some (.int .i64 a1) := (hp.cell (p := ⟨g, i, none⟩) HGB.out).trans C1.out
                have z2 : w5.cell? ⟨g, j, none⟩ = some (.int .i64 hj) := (hp.cell (p := ⟨g, j, none⟩) HGB.out).trans C2.out
                have HP := Lib.hid hp
                clear hp
                simp [depsB, Region.binds, dF] at hF
                simp [stL, depsB, Region.binds, Act.put, hF]
              all_goals first
                | (go_wp2_with fail; exact ⟨rfl, Below.refl _ _⟩)
                | (go_wp2_with (go_at_call 43; (with_reducible refine (CL.out _ HP.out).mono ?_); rintro e6 w6 ⟨rfl, hb6⟩); first | exact ⟨rfl, hb6⟩ | rfl)
            intro vs w5 hp hF
            have e15 := hF 16 (by decide) rfl
            have e16 := hF 17 (by decide) rfl
            replace e15 : vs 16 = .int .i64 (max a1 (la + hj)) := e15
            replace e16 : vs 17 = .pointer (some ⟨g, i, none⟩) := e16
            have HP := Lib.hid hp
            show wpList Tryd.prog _ _ [_] _ _
            simp [stL, Act.put, e15, e16]
            clear hF e15 e16 hp
            have hmx : 0 ≤ max a1 (la + hj) ∧ max a1 (la + hj) ≤ 2000 := by omega
            have HMX := Lib.hid (show max a1 (la + hj) = max a1 (la + hj) from rfl)
            rw [HMX.out] at HS1
            obtain ⟨mx, hmm⟩ : ∃ mx, max a1 (la + hj) = mx := ⟨_, rfl⟩
            rw [hmm] at hmx HS1 ⊢
            clear hmm HMX
            have HO5 := Lib.hid (HO.out.grow HP.out)
            have HB5 := Lib.hid (HB.out.trans (HP.out.mono (Nat.le_of_lt HGB.out)))
            have c5 := HO5.out.cell (HX1.out.at hlt)
            have f5 := HO5.out.free i
            have HO6 := Lib.hid (HO5.out.set i (y := mx) ⟨by omega, by omega⟩)
            have HB6 := Lib.hid (below_set (k := i) (u := .int .i64 mx) HB5.out (Nat.le_refl g))
            generalize vs 0 = x0
            generalize vs 1 = x1
            generalize vs 2 = x2
            generalize vs 3 = x3
            generalize vs 4 = x4
            generalize vs 5 = x5
            generalize vs 6 = x6
            generalize vs 7 = x7
            generalize vs 8 = x8
            generalize vs 9 = x9
            generalize vs 10 = x10
            generalize vs 11 = x11
            generalize vs 12 = x12
            generalize vs 13 = x13
            generalize vs 14 = x14
            generalize vs 15 = x15
            generalize vs 16 = x16
            generalize vs 17 = x17
            go_wp2_with fail
            go_roundw
            case rel => exact ⟨k + 1, by omega, rfl, (by rw [HS1.out]; exact HO6), HB6⟩
            case measure => simp [intOf]; omega
          · obtain rfl : k = r := by omega
            have hlo : ¬ (k : Int) < (k : Int) := by omega
            go_wp2_with fail
            go_roundw
            case rel => exact ⟨j, (j : Int) - 1, by omega, rfl, rfl, (by
              rw [HT.out.2]
              show Hid (Own g _ _ (htI l j (h0.set j (max (h0.getD j 0) 1)) (depRow l j j)))
              rw [HIS.out.2.2, ← HIB.out.2.2.2, HH1.out]
              have := HO
              rw [List.take_of_length_le (Nat.le_of_eq HR.out)] at this
              exact this), HB⟩
            case measure => simp [intOf]
  · have hfl : fineF l = false := by simpa using hfl
    have e1 : depD l = [] := by unfold depD; rw [hfl]; rfl
    have e2 : depE l = 21 := by unfold depE; rw [hfl]; rfl
    have e3 : htD l = [] := by unfold htD; rw [hfl]; rfl
    rw [e1, e2] at CD
    rw [e2, e3]
    clear h hn hfl h9 e1 e2 e3 hf
    go_enter Tryd.func26, Tryd.ntmps26
    go_wp2_with (go_at_call 28; (with_reducible refine CD.out.mono ?_); rintro e1 w1 ⟨DA, dc, rfl, hd, hb1⟩)
    go_ret2
    exact RetInts.mk Own.nil hb1
set_option maxRecDepth 100000 in
set_option maxHeartbeats 8000000 in
theorem r40_Heights (A : Option Addr) (n c : Nat) (l : List Ins) (w : World) (h : InsAt w A l) (hn : l.length = n) (h9 : n ≤ 9223372036854775807) : Calls Tryd.prog 38 #[.slice A n c] w (RetInts w (htD l) (depE l)) := by
  have CD := Lib.hid (r40_Depends A n c l w h hn h9)
  by_cases hfl : fineF l = true
  · have hn512 : n ≤ 512 := by
      unfold fineF inB at hfl
      rw [Bool.and_eq_true, Bool.and_eq_true, decide_eq_true_eq, decide_eq_true_eq, hn] at hfl
      omega
    have e1 : depD l = depsF l := by unfold depD; rw [if_pos hfl]
    have e2 : depE l = 0 := by unfold depE; rw [if_pos hfl]
    have e3 : htD l = hts l n n := by unfold htD htF; rw [if_pos hfl, hn]
    have e4 : (depsF l).length = n := by unfold depsF; rw [depT_length, hn]
    have HAT : Hid (∀ j, j < n → (depsF l)[j]? = some (depRow l j j)) := fun j hj => by
      unfold depsF; rw [hn, depT_at hj, if_pos hj]
    rw [e1, e2] at CD
    rw [e2, e3]
    have HE4 := Lib.hid e4
    have HI := Lib.hid h
    have HN := Lib.hid hn
    clear h hn hfl h9 e1 e2 e3 e4
    go_enter Tryd.func38, Tryd.ntmps38
    go_upto_region 4 with (go_at_call 37; (with_reducible refine CD.out.mono ?_); rintro e1 w1 ⟨DA, dc, rfl, hd, hb1⟩)
    rw [HE4.out]
    have HD := Lib.hid hd
    have HB0 := Lib.hid hb1
    clear hd hb1
    have HI0 := Lib.hid (HI.out.grow HB0.out)
    clear HI CD
    go_upto_region 5 with ((with_reducible show wpList _ _ _ (Oper.mk (some 20) _ _ _ _ _ :: _) _ _); refine mk_int rfl _ _ rfl w1.heap.size n rfl rfl rfl (by omega) (Nat.le_refl _) ?_; intro w3 ho3 hb3)
    have HO3 : Hid (Own w1.heap.size w3 (.slice (some ⟨w1.heap.size, 0, none⟩) n n) (hts l n (n - n))) := by rw [Nat.sub_self]; exact ho3
    have HB3 := Lib.hid hb3
    have HG : Hid (∃ g, w1.heap.size = g) := ⟨_, rfl⟩
    obtain ⟨g, hg⟩ := HG.out
    have HGG := Lib.hid hg
    rw [hg] at HO3 HB3 ⊢
    clear ho3 hb3 hg HG
    have wn : IntKind.i64.wrap ((n : Int) - 1) = (n : Int) - 1 := IntWalk.i64_in _ (by omega)
    go_wp2_with fail
    go_loopw [7] (fun x wr => ∃ (t : Nat) (v : Int), t ≤ n ∧ v = (t : Int) - 1 ∧ x = .int .i64 v ∧ Hid (Own g wr (.slice (some ⟨g, 0, none⟩) n n) (hts l n (n - t))) ∧ Hid (Below g w1 wr)) (fun x _ => (intOf x + 1).toNat)
    case atStart => exact ⟨n, _, Nat.le_refl _, rfl, rfl, HO3, HB3⟩
    case round =>
      obtain ⟨t, v, ht, hv, rfl, HO, HB⟩ := hrel
      cases t with
      | zero =>
        obtain rfl : v = -1 := by omega
        clear hv
        go_wp2_with fail
        go_ret2
        exact RetInts.mk (HO.out.base (HGG.out ▸ HB0.out.size)) (below_then HB0.out (HGG.out ▸ HB.out))
      | succ j =>
        obtain rfl : v = (j : Int) := by omega
        clear hv
        have HT : Hid (j < n ∧ hts l n (n - j) = htJ l j (hts l n (n - (j + 1)))) := ⟨by omega, hts_step (by omega)⟩
        have HIN := Lib.hid (hts_in l n (n - (j + 1)) (by omega))
        obtain ⟨h0, hh0⟩ : ∃ h0, hts l n (n - (j + 1)) = h0 := ⟨_, rfl⟩
        rw [hh0] at HO HIN HT
        clear hh0
        have hj0 : 0 ≤ h0.getD j 0 ∧ h0.getD j 0 ≤ 3 * 512 := by have := HIN.out.getD (by omega) j; omega
        have c0 := HO.out.cell (HIN.out.at HT.out.1)
        have f0 := HO.out.free j
        obtain ⟨a0, ha0⟩ : ∃ a0, h0.getD j 0 = a0 := ⟨_, rfl⟩
        have HA0 := Lib.hid ha0
        rw [ha0] at hj0 c0
        clear ha0
        have q1 : (0 : Int) ≤ (j : Int) := by omega
        have q2 : (j : Int) < (n : Int) := by omega
        have wj : IntKind.i64.wrap ((j : Int) - 1) = (j : Int) - 1 := IntWalk.i64_in _ (by omega)
        go_upto_region 9 with fail
        have hm0 : 0 ≤ max a0 1 ∧ max a0 1 ≤ 3 * 512 := by omega
        obtain ⟨hj, hhj⟩ : ∃ hj, max a0 1 = hj := ⟨_, rfl⟩
        have HHJ := Lib.hid hhj
        rw [hhj] at hm0 ⊢
        clear hhj c0 f0 hj0
        have HO1 := Lib.hid (HO.out.set j (y := hj) ⟨by omega, by omega⟩)
        have HB1 := Lib.hid (below_set (k := j) (u := .int .i64 hj) HB.out (Nat.le_refl g))
        have HIB : Hid (InB (h0.set j hj) n (3 * 512 + 10) ∧ (h0.set j hj).getD j 0 = hj ∧ (0 ≤ hj ∧ hj + 3 ≤ 3 * 512 + 10) ∧ hj = max (h0.getD j 0) 1) := ⟨(HIN.out.le (by omega)).set _ (by omega), getD_setS HIN.out.1 HT.out.1, by omega, by rw [HA0.out]; exact HHJ.out.symm⟩
        generalize wr.setCell ⟨g, j, none⟩ (.int .i64 hj) = wa at HO1 HB1 ⊢
        clear HO HB HHJ HA0
        obtain ⟨h1, hh1⟩ : ∃ h1, h0.set j hj = h1 := ⟨_, rfl⟩
        have HH1 := Lib.hid hh1
        rw [hh1] at HO1 HIB
        clear hh1 HIN
        have hdr := (HD.out.grow (HGG.out ▸ HB1.out)) j _ (HAT.out j HT.out.1)
        obtain ⟨dd, RB, rc, rfl, hdb, hdc, hri⟩ := hdr
        have HRI : Hid (Ints w1 RB (depRow l j j)) := by
          obtain ⟨dd2, RB2, rc2, e2, hdb2, hdc2, hri2⟩ := HD.out j _ (HAT.out j HT.out.1)
          obtain rfl : dd = dd2 := Option.some.inj e2
          have := (HGG.out ▸ HB1.out : Below w1.heap.size w1 wa).cell (p := dd.add j) (by rw [block_add]; exact hdb2)
          rw [hdc2, hdc] at this
          injection this with this
          injection this with this
          subst this
          exact hri2
        have HDC : Hid (∀ w', Below g w1 w' → w'.cell? (dd.add j) = some (.slice RB (depRow l j j).length rc)) := fun w' hb => by
          obtain ⟨dd2, RB2, rc2, e2, hdb2, hdc2, hri2⟩ := HD.out j _ (HAT.out j HT.out.1)
          obtain rfl : dd = dd2 := Option.some.inj e2
          rw [← hdc]
          exact ((HGG.out ▸ hb : Below w1.heap.size w1 w').cell (p := dd.add j) (by rw [block_add]; exact hdb2)).trans ((HGG.out ▸ HB1.out : Below w1.heap.size w1 wa).cell (p := dd.add j) (by rw [block_add]; exact hdb2)).symm
        clear hri hdb
        obtain ⟨is, his⟩ : ∃ is, depRow l j j = is := ⟨_, rfl⟩
        have HIS : Hid ((∀ i ∈ is, 0 ≤ i ∧ i < (j : Int)) ∧ is.length ≤ j ∧ depRow l j j = is) := by subst his; exact ⟨depRow_in, depRow_len l j j, rfl⟩
        rw [his] at HRI HDC hdc
        clear his
        obtain ⟨r, hr⟩ : ∃ r, is.length = r := ⟨_, rfl⟩
        have HR := Lib.hid hr
        have hrj : r ≤ j := by rw [← hr]; exact HIS.out.2.1
        rw [hr] at HDC hdc
        clear hr
        obtain ⟨wo, hwo⟩ : ∃ wo : World, wo = wr := ⟨_, rfl⟩
        go_wp2_with fail
        go_loopw [8] (fun x wr => ∃ k : Nat, k ≤ r ∧ x = .int .i64 k ∧ Hid (Own g wr (.slice (some ⟨g, 0, none⟩) n n) (htI l j h1 (is.take k))) ∧ Hid (Below g w1 wr)) (fun x _ => r - (intOf x).toNat)
        case atStart => exact ⟨0, Nat.zero_le _, rfl, HO1, HB1⟩
        case round =>
          obtain ⟨k, hk, rfl, HO, HB⟩ := hrel
          have hdc := HDC.out _ HB.out
          by_cases hkr : k < r
          · obtain ⟨rd, iv, rfl, hrb, hiv, hrc, -, -⟩ := (HRI.out.grow (HGG.out ▸ HB.out)).at_ (k := k) (by rw [HR.out]; exact hkr)
            have hii := HIS.out.1 iv (List.mem_of_getElem? hiv)
            obtain ⟨i, rfl⟩ : ∃ i : Nat, iv = (i : Int) := ⟨iv.toNat, by omega⟩
            have HST := Lib.hid (htI_snoc (l := l) (j := j) (h := h1) hiv)
            obtain ⟨hx1, hx2⟩ := htI_in (l := l) (j := j) (is.take k) h1 HIB.out.1 (by rw [HIB.out.2.1]; exact HIB.out.2.2.1) (fun i hi => HIS.out.1 i (List.mem_of_mem_take hi))
            rw [HIB.out.2.1] at hx2
            obtain ⟨hc, hhc⟩ : ∃ hc, htI l j h1 (is.take k) = hc := ⟨_, rfl⟩
            rw [hhc] at HO HST hx1 hx2
            clear hhc
            have hlt : i < n := by omega
            have c1 := HO.out.cell (hx1.at hlt)
            have c2 := HO.out.cell (hx1.at HT.out.1)
            rw [hx2] at c2
            have hl1 := hx1.getD (by omega) i
            have hl2 := latP_in l i j
            have hll : hx1.1 = hx1.1 := rfl
            have HGB : Hid (g < wr.heap.size) := HO.out.block.2
            have HSS : Hid (htS l j hc (i : Int) = hc.set i (max (hc.getD i 0) (latP l i j + hj))) := by
              show hc.set _ _ = _
              rw [Int.toNat_natCast, hx2]
            clear hll hiv hrb
            obtain ⟨a1, ha1⟩ : ∃ a1, hc.getD i 0 = a1 := ⟨_, rfl⟩
            obtain ⟨la, hla⟩ : ∃ la, latP l i j = la := ⟨_, rfl⟩
            have CL : Hid (∀ w', Below wr.heap.size wr w' → Calls Tryd.prog 53 #[.slice A n c, .int .i64 i, .int .i64 j] w' fun e w'' => e = .returned (.int .i64 la) ∧ Below w'.heap.size w' w'') := fun w' hb => by
              rw [← hla]
              exact r40_latency A n c l i j w' (HI0.out.grow (below_then (HGG.out ▸ HB.out) hb)) HN.out hn512 hlt HT.out.1
            rw [ha1, hla] at HSS
            rw [ha1] at hl1 c1
            rw [hla] at hl2
            have HS1 := Lib.hid (HST.out.trans HSS.out)
            have HX1 := Lib.hid hx1
            have C1 := Lib.hid c1
            have C2 := Lib.hid c2
            clear ha1 hla hx1 hx2 HST HSS c1 c2
            have p1 : (0 : Int) ≤ (k : Int) := by omega
            have p2 : (k : Int) < (r : Int) := by omega
            have wk : IntKind.i64.wrap ((k : Int) + 1) = ((k + 1 : Nat) : Int) := (IntWalk.i64_in _ (by omega)).trans (by omega)
            have p3 : (0 : Int) ≤ (i : Int) := by omega
            have p4 : (i : Int) < (n : Int) := by omega
            have wl : IntKind.i64.wrap (hj + la) = hj + la := IntWalk.i64_in _ (by omega)
            go_upto_region 13 with fail
            refine wp_region_grow8 (fun x => Nat.blt x 17) (fun _ => false) (fun w2 => Below wr.heap.size wr w2) (fun a b => Below a.heap.size a b) (dF 0 [.v (.slice (some ⟨g, 0, none⟩) n n), .v (.int .i64 (i : Int)), .v (.slice (some ⟨g, 0, none⟩) n n), .v (.int .i64 (i : Int)), .v (.pointer (some ⟨g, i, none⟩)), .v (.int .i64 (a1 : Int)), .v (.slice (some ⟨g, 0, none⟩) n n), .v (.int .i64 (j : Int)), .v (.pointer (some ⟨g, j, none⟩)), .v (.int .i64 (hj : Int)), .v (.slice A n c), .v (.int .i64 (i : Int)), .v (.int .i64 (j : Int)), .v (.int .i64 (la : Int)), .v (.int .i64 (hj + la : Int)), .v (.int .i64 (max a1 (hj + la) : Int)), .v (.pointer (some ⟨g, i, none⟩))]) (by kernel_rfl) (by kernel_rfl) (Below.drew (Below.refl _ _)) (fun a b h1 h2 => ⟨below_then h1 h2, fun i _ v => dF_keep h2 i v⟩) (fun w _ => Below.refl _ _) ?_ (fun j o _ _ h => by cases h) ?_
            · refine ⟨?_, ?_, ?_, ?_, ?_, ?_, ?_, ?_, ?_, ?_, ?_, ?_, ?_, ?_, ?_, ?_, ?_, trivial⟩
              all_goals
                intro vs w5 hp hF
                have z1 : w5.cell? ⟨g, i, none⟩ = some (.int .i64 a1) := (hp.cell (p := ⟨g, i, none⟩) HGB.out).trans C1.out
                have z2 : w5.cell? ⟨g, j, none⟩ = some (.int .i64 hj) := (hp.cell (p := ⟨g, j, none⟩) HGB.out).trans C2.out
                have HP := Lib.hid hp
                clear hp
                simp [depsB, Region.binds, dF] at hF
                simp [stL, depsB, Region.binds, Act.put, hF]
              all_goals first
                | (go_wp2_with fail; exact ⟨rfl, Below.refl _ _⟩)
                | (go_wp2_with (go_at_call 53; (with_reducible refine (CL.out _ HP.out).mono ?_); rintro e6 w6 ⟨rfl, hb6⟩); first | exact ⟨rfl, hb6⟩ | rfl)
            intro vs w5 hp hF
            have e15 := hF 15 (by decide) rfl
            have e16 := hF 16 (by decide) rfl
            replace e15 : vs 15 = .int .i64 (max a1 (hj + la)) := e15
            replace e16 : vs 16 = .pointer (some ⟨g, i, none⟩) := e16
            have HP := Lib.hid hp
            show wpList Tryd.prog _ _ [_] _ _
            simp [stL, Act.put, e15, e16]
            clear hF e15 e16 hp
            have hmx : 0 ≤ max a1 (hj + la) ∧ max a1 (hj + la) ≤ 2000 := by omega
            have HMX := Lib.hid (show max a1 (la + hj) = max a1 (hj + la) by rw [Int.add_comm])
            rw [HMX.out] at HS1
            obtain ⟨mx, hmm⟩ : ∃ mx, max a1 (hj + la) = mx := ⟨_, rfl⟩
            rw [hmm] at hmx HS1 ⊢
            clear hmm HMX
            have HO5 := Lib.hid (HO.out.grow HP.out)
            have HB5 := Lib.hid (HB.out.trans (HP.out.mono (Nat.le_of_lt HGB.out)))
            have c5 := HO5.out.cell (HX1.out.at hlt)
            have f5 := HO5.out.free i
            have HO6 := Lib.hid (HO5.out.set i (y := mx) ⟨by omega, by omega⟩)
            have HB6 := Lib.hid (below_set (k := i) (u := .int .i64 mx) HB5.out (Nat.le_refl g))
            generalize vs 0 = x0
            generalize vs 1 = x1
            generalize vs 2 = x2
            generalize vs 3 = x3
            generalize vs 4 = x4
            generalize vs 5 = x5
            generalize vs 6 = x6
            generalize vs 7 = x7
            generalize vs 8 = x8
            generalize vs 9 = x9
            generalize vs 10 = x10
            generalize vs 11 = x11
            generalize vs 12 = x12
            generalize vs 13 = x13
            generalize vs 14 = x14
            generalize vs 15 = x15
            generalize vs 16 = x16
            go_wp2_with fail
            go_roundw
            case rel => exact ⟨k + 1, by omega, rfl, (by rw [HS1.out]; exact HO6), HB6⟩
            case measure => simp [intOf]; omega
          · obtain rfl : k = r := by omega
            have hlo : ¬ (k : Int) < (k : Int) := by omega
            go_wp2_with fail
            go_roundw
            case rel => exact ⟨j, (j : Int) - 1, by omega, rfl, rfl, (by
              rw [HT.out.2]
              show Hid (Own g _ _ (htI l j (h0.set j (max (h0.getD j 0) 1)) (depRow l j j)))
              rw [HIS.out.2.2, ← HIB.out.2.2.2, HH1.out]
              have := HO
              rw [List.take_of_length_le (Nat.le_of_eq HR.out)] at this
              exact this), HB⟩
            case measure => simp [intOf]
  · have hfl : fineF l = false := by simpa using hfl
    have e1 : depD l = [] := by unfold depD; rw [hfl]; rfl
    have e2 : depE l = 21 := by unfold depE; rw [hfl]; rfl
    have e3 : htD l = [] := by unfold htD; rw [hfl]; rfl
    rw [e1, e2] at CD
    rw [e2, e3]
    clear h hn hfl h9 e1 e2 e3
    go_enter Tryd.func38, Tryd.ntmps38
    go_wp2_with (go_at_call 37; (with_reducible refine CD.out.mono ?_); rintro e1 w1 ⟨DA, dc, rfl, hd, hb1⟩)
    go_ret2
    exact RetInts.mk Own.nil hb1
end Go.Proofs.YtpmbgcfnehplaaaDoor
