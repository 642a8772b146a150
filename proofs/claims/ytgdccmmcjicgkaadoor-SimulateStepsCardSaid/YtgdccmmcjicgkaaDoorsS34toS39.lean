/- Several texts in one: S34 S39. -/
import Derived.Test.YtgdccmmcjicgkaaDoorsS28
import Derived.Test.YtgdccmmcjicgkaaDoorsS6
set_option linter.unusedVariables false
set_option linter.unusedSimpArgs false
section
namespace Go.Proofs.YtgdccmmcjicgkaaDoor
open Go.RowKit
def wokB (d : PrgD) (m : Mac) (r k : Int) : Bool := macB d m && (decide (0 ≤ r) && (decide (r < d.rg.length) && (decide (0 ≤ k) && decide (k < (rgA d r).2))))
def wrdV (d : PrgD) (m : Mac) (r k : Int) : Int := if validB d = true then if wokB d m r k = true then m.mem.getD (plc d m.heads r k).toNat 0 else 0 else 0
def wrdE (d : PrgD) (m : Mac) (r k : Int) : Int := if validB d = true then if wokB d m r k = true then 0 else 1 else 21
def wrdF (u : PrgA) (x : MacA) (gm : Nat) (r k P : Int) (ad : Addr) (y : Int) : Nat → Value → World → Prop
  | 0, v, _ => v = .pointer (some ⟨gm, 1, none⟩)
  | 1, v, _ => v = .slice x.MA x.m.mem.length x.mc
  | 2, v, _ => v = .agg u.lst.toArray
  | 3, v, _ => v = .agg x.lst.toArray
  | 4, v, _ => v = .int .i64 r
  | 5, v, _ => v = .int .i64 k
  | 6, v, _ => v = .int .i64 P
  | 7, v, _ => v = .pointer (some (ad.add P.toNat))
  | 8, v, _ => v = .int .i64 y
  | _, _, _ => True
theorem wrdF_keep {u : PrgA} {x : MacA} {gm : Nat} {r k P : Int} {ad : Addr} {y : Int} {w w' : World} : ∀ i v, wrdF u x gm r k P ad y i v w → wrdF u x gm r k P ad y i v w'
  | 0, _, e | 1, _, e | 2, _, e | 3, _, e | 4, _, e | 5, _, e | 6, _, e | 7, _, e | 8, _, e => e
  | n + 9, _, e => e
set_option maxRecDepth 100000 in
set_option maxHeartbeats 8000000 in
theorem sm_Word (u : PrgA) (x : MacA) (r k : Int) (w : World) (hf : FormsAt w) (hp : PrgAt w u) (hx : MacAt w x) (hr9 : u.d.rg.length ≤ 9223372036854775807) (hc9 : u.d.code.length ≤ 9223372036854775807) (hm9 : MacLen x.m) :
    Calls Tryd.prog 35 #[u.v, x.v, .int .i64 r, .int .i64 k] w fun e w' => e = .returned (.tuple #[.int .i64 (wrdV u.d x.m r k), .int .i64 (wrdE u.d x.m r k)]) ∧ Below w.heap.size w w' := by
  obtain ⟨rn, hrn⟩ : ∃ n, u.d.rg.length = n := ⟨_, rfl⟩
  obtain ⟨V, hV⟩ : ∃ b, validB u.d = b := ⟨_, rfl⟩
  obtain ⟨R, hR⟩ : ∃ b, macB u.d x.m = b := ⟨_, rfl⟩
  have CV : Hid (∀ w1, Below w.heap.size w w1 → Calls Tryd.prog 43 #[.agg u.lst.toArray] w1 fun e w' => e = .returned (.bool V) ∧ Below w1.heap.size w1 w') := Lib.hid fun w1 hb => pr_Valid u w1 (hf.grow hb) (hp.grow hb) hr9 hc9 hV
  have CM : Hid (∀ w1, Below w.heap.size w w1 → Calls Tryd.prog 39 #[.agg u.lst.toArray, .agg x.lst.toArray] w1 fun e w' => e = .returned (.bool R) ∧ Below w1.heap.size w1 w') := Lib.hid fun w1 hb => sm_Valid u x w1 (hf.grow hb) (hp.grow hb) (hx.grow hb) hr9 hc9 hm9 hR
  have HV := Lib.hid hV
  have HR := Lib.hid hR
  have HL8 := Lib.hid (lst_eight hrn)
  have HPT := Lib.hid hp
  have HXT := Lib.hid hx
  have HRN := Lib.hid hrn
  rw [hrn] at hr9
  have ev : u.v = .agg u.lst.toArray := rfl
  have em : x.v = .agg x.lst.toArray := rfl
  rw [ev, em]
  clear ev em hf hp hx hV hR hc9 hm9 hrn
  go_enter Tryd.func35, Tryd.ntmps35
  go_upto_region 1 with fail
  obtain ⟨bp, bm, hb0⟩ := entryPM w u.lst x.lst _ rfl
  change Code.wp _ _ _ _ ((w.alloc (.cells u.lst.toArray 43)).alloc (.cells x.lst.toArray 46))
  generalize ((w.alloc (.cells u.lst.toArray 43)).alloc (.cells x.lst.toArray 46)) = W0 at bp bm hb0 ⊢
  have HB0 := Lib.hid hb0
  have HP0 := Lib.hid bp
  have HM0 := Lib.hid bm
  clear hb0 bp bm
  generalize w.heap.size + 1 = gm at HM0 ⊢
  obtain ⟨gp, hgp⟩ : ∃ g, w.heap.size = g := ⟨_, rfl⟩
  rw [hgp] at HP0 ⊢
  have HGP := Lib.hid hgp
  clear hgp
  cases V with
  | false =>
    go_wp2_with (first
    | ((with_reducible show wpList _ _ _ (Oper.mk _ (.load 43 _) _ _ _ _ :: _) _ _); first | refine ld_prg HP0.out (lst_ten u) rfl _ rfl rfl ?_ | refine ld_prg HP1.out (lst_ten u) rfl _ rfl rfl ?_)
    | ((with_reducible show wpList _ _ _ (Oper.mk _ (.load 46 _) _ _ _ _ :: _) _ _); refine ld_mac HM1.out rfl rfl _ rfl rfl ?_)
    | (go_at_call 43; (with_reducible refine (CV.out _ HB0.out).mono ?_); rintro e1 w1 ⟨rfl, hb1⟩)
    | (go_at_call 39; (with_reducible refine (CM.out _ HB1.out).mono ?_); rintro e2 w2 ⟨rfl, hb2⟩; have x8 : w2.cell? ⟨gp, 8, none⟩ = some (.slice u.RA rn u.rc) := ((HP1.out.keep hb2).2.1 8).trans HL8.out))
    go_ret2
    exact ⟨by unfold wrdV wrdE; rw [HV.out]; rfl, HGP.out ▸ below_then HB0.out hb1⟩
  | true =>
    go_upto_region 3 with (first
    | ((with_reducible show wpList _ _ _ (Oper.mk _ (.load 43 _) _ _ _ _ :: _) _ _); first | refine ld_prg HP0.out (lst_ten u) rfl _ rfl rfl ?_ | refine ld_prg HP1.out (lst_ten u) rfl _ rfl rfl ?_)
    | ((with_reducible show wpList _ _ _ (Oper.mk _ (.load 46 _) _ _ _ _ :: _) _ _); refine ld_mac HM1.out rfl rfl _ rfl rfl ?_)
    | (go_at_call 43; (with_reducible refine (CV.out _ HB0.out).mono ?_); rintro e1 w1 ⟨rfl, hb1⟩)
    | (go_at_call 39; (with_reducible refine (CM.out _ HB1.out).mono ?_); rintro e2 w2 ⟨rfl, hb2⟩; have x8 : w2.cell? ⟨gp, 8, none⟩ = some (.slice u.RA rn u.rc) := ((HP1.out.keep hb2).2.1 8).trans HL8.out))
    have HB1 := Lib.hid (below_then HB0.out hb1)
    have HP1 := Lib.hid (HP0.out.keep hb1)
    have HM1 := Lib.hid (HM0.out.keep hb1)
    clear hb1 HB0 HP0 HM0 CV
    cases R with
    | false =>
      have HO : Hid (wokB u.d x.m r k = false) := by unfold wokB; rw [HR.out]; exact Lib.hid rfl
      go_wp2_with (first
    | ((with_reducible show wpList _ _ _ (Oper.mk _ (.load 43 _) _ _ _ _ :: _) _ _); first | refine ld_prg HP0.out (lst_ten u) rfl _ rfl rfl ?_ | refine ld_prg HP1.out (lst_ten u) rfl _ rfl rfl ?_)
    | ((with_reducible show wpList _ _ _ (Oper.mk _ (.load 46 _) _ _ _ _ :: _) _ _); refine ld_mac HM1.out rfl rfl _ rfl rfl ?_)
    | (go_at_call 43; (with_reducible refine (CV.out _ HB0.out).mono ?_); rintro e1 w1 ⟨rfl, hb1⟩)
    | (go_at_call 39; (with_reducible refine (CM.out _ HB1.out).mono ?_); rintro e2 w2 ⟨rfl, hb2⟩; have x8 : w2.cell? ⟨gp, 8, none⟩ = some (.slice u.RA rn u.rc) := ((HP1.out.keep hb2).2.1 8).trans HL8.out))
      go_ret2
      exact ⟨by unfold wrdV wrdE; rw [HV.out, HO.out]; rfl, below_then HB1.out hb2⟩
    | true =>

      by_cases hr0 : r < 0
      · have HO : Hid (wokB u.d x.m r k = false) := Lib.hid (by
          unfold wokB
          rw [HR.out]
          rw [decide_eq_false (by omega : ¬ 0 ≤ r)]; rfl)
        go_wp2_with (first
          | ((with_reducible show wpList _ _ _ (Oper.mk _ (.load 43 _) _ _ _ _ :: _) _ _); first | refine ld_prg HP0.out (lst_ten u) rfl _ rfl rfl ?_ | refine ld_prg HP1.out (lst_ten u) rfl _ rfl rfl ?_)
          | ((with_reducible show wpList _ _ _ (Oper.mk _ (.load 46 _) _ _ _ _ :: _) _ _); refine ld_mac HM1.out rfl rfl _ rfl rfl ?_)
          | (go_at_call 43; (with_reducible refine (CV.out _ HB0.out).mono ?_); rintro e1 w1 ⟨rfl, hb1⟩)
          | (go_at_call 39; (with_reducible refine (CM.out _ HB1.out).mono ?_); rintro e2 w2 ⟨rfl, hb2⟩; have x8 : w2.cell? ⟨gp, 8, none⟩ = some (.slice u.RA rn u.rc) := ((HP1.out.keep hb2).2.1 8).trans HL8.out))
        go_ret2
        exact ⟨by unfold wrdV wrdE; rw [HV.out, HO.out]; rfl, below_then HB1.out hb2⟩
      by_cases hr1 : (rn : Int) ≤ r
      · have HO : Hid (wokB u.d x.m r k = false) := Lib.hid (by
          unfold wokB
          rw [HR.out]
          rw [decide_eq_false (by rw [HRN.out]; omega : ¬ r < (u.d.rg.length : Int))]; simp)
        go_wp2_with (first
          | ((with_reducible show wpList _ _ _ (Oper.mk _ (.load 43 _) _ _ _ _ :: _) _ _); first | refine ld_prg HP0.out (lst_ten u) rfl _ rfl rfl ?_ | refine ld_prg HP1.out (lst_ten u) rfl _ rfl rfl ?_)
          | ((with_reducible show wpList _ _ _ (Oper.mk _ (.load 46 _) _ _ _ _ :: _) _ _); refine ld_mac HM1.out rfl rfl _ rfl rfl ?_)
          | (go_at_call 43; (with_reducible refine (CV.out _ HB0.out).mono ?_); rintro e1 w1 ⟨rfl, hb1⟩)
          | (go_at_call 39; (with_reducible refine (CM.out _ HB1.out).mono ?_); rintro e2 w2 ⟨rfl, hb2⟩; have x8 : w2.cell? ⟨gp, 8, none⟩ = some (.slice u.RA rn u.rc) := ((HP1.out.keep hb2).2.1 8).trans HL8.out))
        go_ret2
        exact ⟨by unfold wrdV wrdE; rw [HV.out, HO.out]; rfl, below_then HB1.out hb2⟩
      obtain ⟨ka, rfl⟩ : ∃ n : Nat, r = (n : Int) := Int.eq_ofNat_of_zero_le (by omega)
      have hka : ka < rn := by omega
      obtain ⟨⟨xb, xl⟩, hxr⟩ : ∃ y, u.d.rg[ka]? = some y := ⟨_, List.getElem?_eq_getElem (by rw [HRN.out]; exact hka)⟩
      have hrga : rgA u.d (ka : Int) = (xb, xl) := by
        unfold rgA
        rw [show ((ka : Int)).toNat = ka from rfl, List.getD_eq_getElem?_getD, hxr]
        rfl
      have hin := ringIn_iff.1 ((valid_rl HV.out).2 _ (List.mem_of_getElem? hxr))
      simp only at hin
      obtain ⟨ad, hA, hsp, hbl, hrr, -⟩ := HPT.out.1.grow HB1.out ka (xb, xl) hxr
      obtain ⟨-, r1⟩ := ring_cells hsp hrr
      simp only at r1
      have hrz : (⟨(ad.add (ka * 2)).block, (ad.add (ka * 2)).off + 1, none⟩ : Addr).block < w1.heap.size := by show (ad.add (ka * 2)).block < _; rw [block_add]; exact hbl
      rw [hA] at HL8
      have HR1 := Lib.hid r1
      have HRZ := Lib.hid hrz
      have HGA := Lib.hid hrga
      clear hsp hbl hrr r1 hrz hxr hrga
      have q1 : (0 : Int) ≤ (ka : Int) := by omega
      have q2 : (ka : Int) < (rn : Int) := by omega

      by_cases hk0 : k < 0
      · have HO : Hid (wokB u.d x.m ka k = false) := Lib.hid (by
          unfold wokB
          rw [HR.out]
          rw [decide_eq_false (by omega : ¬ 0 ≤ k)]; simp)
        go_wp2_with (first
          | ((with_reducible show wpList _ _ _ (Oper.mk _ (.load 43 _) _ _ _ _ :: _) _ _); first | refine ld_prg HP0.out (lst_ten u) rfl _ rfl rfl ?_ | refine ld_prg HP1.out (lst_ten u) rfl _ rfl rfl ?_)
          | ((with_reducible show wpList _ _ _ (Oper.mk _ (.load 46 _) _ _ _ _ :: _) _ _); refine ld_mac HM1.out rfl rfl _ rfl rfl ?_)
          | (go_at_call 43; (with_reducible refine (CV.out _ HB0.out).mono ?_); rintro e1 w1 ⟨rfl, hb1⟩)
          | (go_at_call 39; (with_reducible refine (CM.out _ HB1.out).mono ?_); rintro e2 w2 ⟨rfl, hb2⟩; have x8 : w2.cell? ⟨gp, 8, none⟩ = some (.slice (some ad) rn u.rc) := ((HP1.out.keep hb2).2.1 8).trans HL8.out; have r1 := (hb2.cell HRZ.out).trans HR1.out))
        go_ret2
        exact ⟨by unfold wrdV wrdE; rw [HV.out, HO.out]; rfl, below_then HB1.out hb2⟩
      by_cases hk1 : xl ≤ k
      · have HO : Hid (wokB u.d x.m ka k = false) := Lib.hid (by
          unfold wokB
          rw [HR.out]
          rw [HGA.out, decide_eq_false (by show ¬ k < xl; omega : ¬ k < ((xb, xl) : Int × Int).2)]; simp)
        go_wp2_with (first
          | ((with_reducible show wpList _ _ _ (Oper.mk _ (.load 43 _) _ _ _ _ :: _) _ _); first | refine ld_prg HP0.out (lst_ten u) rfl _ rfl rfl ?_ | refine ld_prg HP1.out (lst_ten u) rfl _ rfl rfl ?_)
          | ((with_reducible show wpList _ _ _ (Oper.mk _ (.load 46 _) _ _ _ _ :: _) _ _); refine ld_mac HM1.out rfl rfl _ rfl rfl ?_)
          | (go_at_call 43; (with_reducible refine (CV.out _ HB0.out).mono ?_); rintro e1 w1 ⟨rfl, hb1⟩)
          | (go_at_call 39; (with_reducible refine (CM.out _ HB1.out).mono ?_); rintro e2 w2 ⟨rfl, hb2⟩; have x8 : w2.cell? ⟨gp, 8, none⟩ = some (.slice (some ad) rn u.rc) := ((HP1.out.keep hb2).2.1 8).trans HL8.out; have r1 := (hb2.cell HRZ.out).trans HR1.out))
        go_ret2
        exact ⟨by unfold wrdV wrdE; rw [HV.out, HO.out]; rfl, below_then HB1.out hb2⟩
      have HO : Hid (wokB u.d x.m ka k = true) := Lib.hid (by
        unfold wokB
        rw [HR.out, HGA.out, HRN.out, decide_eq_true q1, decide_eq_true q2, decide_eq_true (by omega : 0 ≤ k), decide_eq_true (by show k < xl; omega : k < ((xb, xl) : Int × Int).2)]; rfl)
      go_upto_region 5 with (first
    | ((with_reducible show wpList _ _ _ (Oper.mk _ (.load 43 _) _ _ _ _ :: _) _ _); first | refine ld_prg HP0.out (lst_ten u) rfl _ rfl rfl ?_ | refine ld_prg HP1.out (lst_ten u) rfl _ rfl rfl ?_)
    | ((with_reducible show wpList _ _ _ (Oper.mk _ (.load 46 _) _ _ _ _ :: _) _ _); refine ld_mac HM1.out rfl rfl _ rfl rfl ?_)
    | (go_at_call 43; (with_reducible refine (CV.out _ HB0.out).mono ?_); rintro e1 w1 ⟨rfl, hb1⟩)
    | (go_at_call 39; (with_reducible refine (CM.out _ HB1.out).mono ?_); rintro e2 w2 ⟨rfl, hb2⟩; have x8 : w2.cell? ⟨gp, 8, none⟩ = some (.slice (some ad) rn u.rc) := ((HP1.out.keep hb2).2.1 8).trans HL8.out; have r1 := (hb2.cell HRZ.out).trans HR1.out))
      any_goals (exfalso; omega)
      have HB2 := Lib.hid (below_then HB1.out hb2)
      have HP2 := Lib.hid (HP1.out.keep hb2)
      have HM2 := Lib.hid (HM1.out.keep hb2)
      clear x8 r1 hb2 HB1 HP1 HM1 CM HR1 HRZ
      -- the place
      have hok := (macB_parts HR.out).2.1
      have hhl := hok.hl
      rw [HRN.out] at hhl
      have hhk := headsB_at hok.hw (k := ka) (by rw [hhl]; exact hka)
      obtain ⟨P, hP⟩ : ∃ p, plc u.d x.m.heads (ka : Int) k = p := ⟨_, rfl⟩
      obtain ⟨p0, p1⟩ : 0 ≤ P ∧ P < 128 := by
        rw [← hP]
        unfold plc
        rw [HGA.out]
        simp only
        have e1 := Int.emod_nonneg (x.m.heads.getD ((ka : Int)).toNat 0 + k) (show xl ≠ 0 by omega)
        have e2 := Int.emod_lt_of_pos (x.m.heads.getD ((ka : Int)).toNat 0 + k) (show 0 < xl by omega)
        omega
      have CPl : Hid (∀ w1, Below W0.heap.size W0 w1 → True) := Lib.hid fun _ _ => trivial
      have CP : Hid (∀ w1, Below w.heap.size w w1 → Calls Tryd.prog 66 #[.agg u.lst.toArray, .agg x.lst.toArray, .int .i64 (ka : Int), .int .i64 k] w1 fun e w' => e = .returned (.int .i64 P) ∧ Below w1.heap.size w1 w') := Lib.hid fun w1 hb => by
        rw [← hP]
        exact sm_place u x.GA x.MA x.HA x.m.regs.length x.gc x.m.mem.length x.mc x.m.heads.length x.hc ka x.m.heads x.m.cyc x.m.stl k w1 (HPT.out.1.grow hb) HV.out (HXT.out.2.2.grow hb) rfl (by rw [HRN.out]; exact hka) (by rw [hhl]; exact hka) hhk (by omega)
      obtain ⟨PN, rfl⟩ : ∃ n : Nat, P = (n : Int) := Int.eq_ofNat_of_zero_le p0
      obtain ⟨ma, y, hMA, hbk, hy, hcc, i1, i2⟩ := (HXT.out.2.1.grow HB2.out).at_ (k := PN) (by rw [hok.ml]; omega)
      have HML : Hid (x.m.mem.length = 128) := Lib.hid hok.ml
      have HY : Hid (x.m.mem.getD (plc u.d x.m.heads (ka : Int) k).toNat 0 = y) := Lib.hid (by rw [hP, show ((PN : Int)).toNat = PN from rfl, List.getD_eq_getElem?_getD, hy]; rfl)
      have hz : (ma.add PN).block < w2.heap.size := by rw [block_add]; exact hbk
      have HZ := Lib.hid hz
      have HCC := Lib.hid hcc
      have HMA := Lib.hid hMA
      have p2 : (PN : Int) < 128 := p1
      clear hok hhl hhk hP hMA hbk hy hcc hz CPl hin
      refine wp_region_grow8 (fun i => Nat.blt i 9) (fun _ => false) (fun w' => Below w2.heap.size w2 w') (fun a b => Below a.heap.size a b) (wrdF u x gm (ka : Int) k (PN : Int) ma y) (by kernel_rfl) (by kernel_rfl) (Below.drew (Below.refl _ _)) (fun a b h1 h2 => ⟨below_then h1 h2, fun i _ v h => wrdF_keep i v h⟩) (fun w _ => Below.refl _ _) ?_ (fun j o _ _ h => by cases h) ?_
      · refine ⟨?_, ?_, ?_, ?_, ?_, ?_, ?_, ?_, ?_, trivial⟩
        all_goals
          intro vs w5 hp hF
          have HPX : Hid (Box w5 gp u.lst ∧ Box w5 gm x.lst ∧ Below w.heap.size w w5) := Lib.hid ⟨HP2.out.keep hp, HM2.out.keep hp, below_then HB2.out hp⟩
          have HQ5 := Lib.hid hp
          clear hp
          simp [depsB, Region.binds, wrdF] at hF
          simp [stL, depsB, Region.binds, Act.put, hF]
        · go_wp2_with fail
          exact ⟨rfl, Below.refl _ _⟩
        · have y1 : w5.cell? ⟨gm, 1, none⟩ = some (.slice x.MA x.m.mem.length x.mc) := HPX.out.2.1.2.1 1
          go_wp2_with fail
          exact ⟨rfl, Below.refl _ _⟩
        · refine ld_prg HPX.out.1 (lst_ten u) rfl _ rfl rfl ?_
          exact wpList_nil ⟨rfl, _, rfl, rfl, Below.refl _ _⟩
        · refine ld_mac HPX.out.2.1 rfl rfl _ rfl rfl ?_
          exact wpList_nil ⟨rfl, _, rfl, rfl, Below.refl _ _⟩
        · go_wp2_with fail
          exact ⟨rfl, Below.refl _ _⟩
        · go_wp2_with fail
          exact ⟨rfl, Below.refl _ _⟩
        · go_wp2_with (go_at_call 66; (with_reducible refine (CP.out _ HPX.out.2.2).mono ?_); rintro e6 w6 ⟨rfl, hb6⟩)
          first | exact ⟨rfl, hb6⟩ | rfl
        · rw [HMA.out, HML.out]
          go_wp2_with fail
          exact ⟨rfl, Below.refl _ _⟩
        · have y1 : w5.cell? (ma.add PN) = some (.int .i64 y) := (HQ5.out.cell HZ.out).trans HCC.out
          go_wp2_with fail
          exact ⟨rfl, Below.refl _ _⟩
      intro vs w5 hC hF
      have e8 : vs 8 = .int .i64 y := hF 8 (by decide) rfl
      have HC := Lib.hid hC
      clear hF hC
      show wpList Tryd.prog _ _ [_, _] _ _
      simp [stL, Act.put, e8]
      go_wp2_with fail
      go_ret2
      exact ⟨by unfold wrdV wrdE; rw [HV.out, HO.out, ← HY.out]; rfl, below_then HB2.out HC.out⟩
end Go.Proofs.YtgdccmmcjicgkaaDoor
end
section
namespace Go.Proofs.YtgdccmmcjicgkaaDoor
open Go.RowKit
set_option maxRecDepth 100000 in
set_option maxHeartbeats 8000000 in
theorem r39_Word (u : PrgA) (x : MacA) (r k : Int) (w : World) (hp : PrgAt w u) (hx : MacAt w x) (hr9 : u.d.rg.length ≤ 9223372036854775807) (hc9 : u.d.code.length ≤ 9223372036854775807) (hm9 : MacLen x.m) :
    Calls Tryd.prog 38 #[u.v, x.v, .int .i64 r, .int .i64 k] w fun e w' => e = .returned (.tuple #[.int .i64 (wrdV u.d x.m r k), .int .i64 (wrdE u.d x.m r k)]) ∧ Below w.heap.size w w' := by
  obtain ⟨rn, hrn⟩ : ∃ n, u.d.rg.length = n := ⟨_, rfl⟩
  obtain ⟨V, hV⟩ : ∃ b, validB u.d = b := ⟨_, rfl⟩
  obtain ⟨R, hR⟩ : ∃ b, macB u.d x.m = b := ⟨_, rfl⟩
  have CV : Hid (∀ w1, Below w.heap.size w w1 → Calls Tryd.prog 29 #[.agg u.lst.toArray] w1 fun e w' => e = .returned (.bool V) ∧ Below w1.heap.size w1 w') := Lib.hid fun w1 hb => r38_Valid u w1 (hp.grow hb) hr9 hc9 hV
  have CM : Hid (∀ w1, Below w.heap.size w w1 → Calls Tryd.prog 40 #[.agg u.lst.toArray, .agg x.lst.toArray] w1 fun e w' => e = .returned (.bool R) ∧ Below w1.heap.size w1 w') := Lib.hid fun w1 hb => r39_Valid u x w1 (hp.grow hb) (hx.grow hb) hr9 hc9 hm9 hR
  have HV := Lib.hid hV
  have HR := Lib.hid hR
  have HL8 := Lib.hid (lst_eight hrn)
  have HPT := Lib.hid hp
  have HXT := Lib.hid hx
  have HRN := Lib.hid hrn
  rw [hrn] at hr9
  have ev : u.v = .agg u.lst.toArray := rfl
  have em : x.v = .agg x.lst.toArray := rfl
  rw [ev, em]
  clear ev em hp hx hV hR hc9 hm9 hrn
  go_enter Tryd.func38, Tryd.ntmps38
  go_upto_region 1 with fail
  obtain ⟨bp, bm, hb0⟩ := entryPM w u.lst x.lst _ rfl
  change Code.wp _ _ _ _ ((w.alloc (.cells u.lst.toArray 43)).alloc (.cells x.lst.toArray 46))
  generalize ((w.alloc (.cells u.lst.toArray 43)).alloc (.cells x.lst.toArray 46)) = W0 at bp bm hb0 ⊢
  have HB0 := Lib.hid hb0
  have HP0 := Lib.hid bp
  have HM0 := Lib.hid bm
  clear hb0 bp bm
  generalize w.heap.size + 1 = gm at HM0 ⊢
  obtain ⟨gp, hgp⟩ : ∃ g, w.heap.size = g := ⟨_, rfl⟩
  rw [hgp] at HP0 ⊢
  have HGP := Lib.hid hgp
  clear hgp
  cases V with
  | false =>
    go_wp2_with (first
    | ((with_reducible show wpList _ _ _ (Oper.mk _ (.load 43 _) _ _ _ _ :: _) _ _); first | refine ld_prg HP0.out (lst_ten u) rfl _ rfl rfl ?_ | refine ld_prg HP1.out (lst_ten u) rfl _ rfl rfl ?_)
    | ((with_reducible show wpList _ _ _ (Oper.mk _ (.load 46 _) _ _ _ _ :: _) _ _); refine ld_mac HM1.out rfl rfl _ rfl rfl ?_)
    | (go_at_call 29; (with_reducible refine (CV.out _ HB0.out).mono ?_); rintro e1 w1 ⟨rfl, hb1⟩)
    | (go_at_call 40; (with_reducible refine (CM.out _ HB1.out).mono ?_); rintro e2 w2 ⟨rfl, hb2⟩; have x8 : w2.cell? ⟨gp, 8, none⟩ = some (.slice u.RA rn u.rc) := ((HP1.out.keep hb2).2.1 8).trans HL8.out))
    go_ret2
    exact ⟨by unfold wrdV wrdE; rw [HV.out]; rfl, HGP.out ▸ below_then HB0.out hb1⟩
  | true =>
    go_upto_region 3 with (first
    | ((with_reducible show wpList _ _ _ (Oper.mk _ (.load 43 _) _ _ _ _ :: _) _ _); first | refine ld_prg HP0.out (lst_ten u) rfl _ rfl rfl ?_ | refine ld_prg HP1.out (lst_ten u) rfl _ rfl rfl ?_)
    | ((with_reducible show wpList _ _ _ (Oper.mk _ (.load 46 _) _ _ _ _ :: _) _ _); refine ld_mac HM1.out rfl rfl _ rfl rfl ?_)
    | (go_at_call 29; (with_reducible refine (CV.out _ HB0.out).mono ?_); rintro e1 w1 ⟨rfl, hb1⟩)
    | (go_at_call 40; (with_reducible refine (CM.out _ HB1.out).mono ?_); rintro e2 w2 ⟨rfl, hb2⟩; have x8 : w2.cell? ⟨gp, 8, none⟩ = some (.slice u.RA rn u.rc) := ((HP1.out.keep hb2).2.1 8).trans HL8.out))
    have HB1 := Lib.hid (below_then HB0.out hb1)
    have HP1 := Lib.hid (HP0.out.keep hb1)
    have HM1 := Lib.hid (HM0.out.keep hb1)
    clear hb1 HB0 HP0 HM0 CV
    cases R with
    | false =>
      have HO : Hid (wokB u.d x.m r k = false) := by unfold wokB; rw [HR.out]; exact Lib.hid rfl
      go_wp2_with (first
    | ((with_reducible show wpList _ _ _ (Oper.mk _ (.load 43 _) _ _ _ _ :: _) _ _); first | refine ld_prg HP0.out (lst_ten u) rfl _ rfl rfl ?_ | refine ld_prg HP1.out (lst_ten u) rfl _ rfl rfl ?_)
    | ((with_reducible show wpList _ _ _ (Oper.mk _ (.load 46 _) _ _ _ _ :: _) _ _); refine ld_mac HM1.out rfl rfl _ rfl rfl ?_)
    | (go_at_call 29; (with_reducible refine (CV.out _ HB0.out).mono ?_); rintro e1 w1 ⟨rfl, hb1⟩)
    | (go_at_call 40; (with_reducible refine (CM.out _ HB1.out).mono ?_); rintro e2 w2 ⟨rfl, hb2⟩; have x8 : w2.cell? ⟨gp, 8, none⟩ = some (.slice u.RA rn u.rc) := ((HP1.out.keep hb2).2.1 8).trans HL8.out))
      go_ret2
      exact ⟨by unfold wrdV wrdE; rw [HV.out, HO.out]; rfl, below_then HB1.out hb2⟩
    | true =>

      obtain ⟨B1, hB1⟩ : ∃ b, inB r 0 ((rn : Int) - 1) = b := ⟨_, rfl⟩
      have HI1 := Lib.hid hB1
      have wr1 : IntKind.i64.wrap ((rn : Int) - 1) = (rn : Int) - 1 := IntWalk.i64_in _ (by omega)
      cases B1 with
      | false =>
        have HO : Hid (wokB u.d x.m r k = false) := Lib.hid (by
          unfold wokB
          rw [HR.out]
          by_cases h0 : 0 ≤ r
          · have h1 : ¬ r < (u.d.rg.length : Int) := fun h => by
              rw [HRN.out] at h
              rw [inB_iff.2 ⟨h0, by omega⟩] at hB1
              cases hB1
            rw [decide_eq_false h1]; simp
          · rw [decide_eq_false h0]; rfl)
        clear hB1
        go_wp2_with (first
          | ((with_reducible show wpList _ _ _ (Oper.mk _ (.load 43 _) _ _ _ _ :: _) _ _); first | refine ld_prg HP0.out (lst_ten u) rfl _ rfl rfl ?_ | refine ld_prg HP1.out (lst_ten u) rfl _ rfl rfl ?_)
          | ((with_reducible show wpList _ _ _ (Oper.mk _ (.load 46 _) _ _ _ _ :: _) _ _); refine ld_mac HM1.out rfl rfl _ rfl rfl ?_)
          | (go_at_call 29; (with_reducible refine (CV.out _ HB0.out).mono ?_); rintro e1 w1 ⟨rfl, hb1⟩)
          | (go_at_call 40; (with_reducible refine (CM.out _ HB1.out).mono ?_); rintro e2 w2 ⟨rfl, hb2⟩; have x8 : w2.cell? ⟨gp, 8, none⟩ = some (.slice u.RA rn u.rc) := ((HP1.out.keep hb2).2.1 8).trans HL8.out)
          | (go_at_call 64; (with_reducible refine (in_is HI1.out _).mono ?_); rintro e3 w3 ⟨rfl, rfl⟩))
        go_ret2
        exact ⟨by unfold wrdV wrdE; rw [HV.out, HO.out]; rfl, below_then HB1.out hb2⟩
      | true =>
      have hri := inB_iff.1 hB1
      clear hB1
      obtain ⟨ka, rfl⟩ : ∃ n : Nat, r = (n : Int) := Int.eq_ofNat_of_zero_le (by omega)
      have hka : ka < rn := by omega
      obtain ⟨⟨xb, xl⟩, hxr⟩ : ∃ y, u.d.rg[ka]? = some y := ⟨_, List.getElem?_eq_getElem (by rw [HRN.out]; exact hka)⟩
      have hrga : rgA u.d (ka : Int) = (xb, xl) := by
        unfold rgA
        rw [show ((ka : Int)).toNat = ka from rfl, List.getD_eq_getElem?_getD, hxr]
        rfl
      have hin := ringIn_iff.1 ((valid_rl HV.out).2 _ (List.mem_of_getElem? hxr))
      simp only at hin
      obtain ⟨ad, hA, hsp, hbl, hrr, -⟩ := HPT.out.1.grow HB1.out ka (xb, xl) hxr
      obtain ⟨-, r1⟩ := ring_cells hsp hrr
      simp only at r1
      have hrz : (⟨(ad.add (ka * 2)).block, (ad.add (ka * 2)).off + 1, none⟩ : Addr).block < w1.heap.size := by show (ad.add (ka * 2)).block < _; rw [block_add]; exact hbl
      rw [hA] at HL8
      have HR1 := Lib.hid r1
      have HRZ := Lib.hid hrz
      have HGA := Lib.hid hrga
      clear hsp hbl hrr r1 hrz hxr hrga
      have q1 : (0 : Int) ≤ (ka : Int) := by omega
      have q2 : (ka : Int) < (rn : Int) := by omega

      obtain ⟨B2, hB2⟩ : ∃ b, inB k 0 (xl - 1) = b := ⟨_, rfl⟩
      have HI2 := Lib.hid hB2
      have wx1 : IntKind.i64.wrap (xl - 1) = xl - 1 := IntWalk.i64_in _ (by omega)
      cases B2 with
      | false =>
        have HO : Hid (wokB u.d x.m ka k = false) := Lib.hid (by
          unfold wokB
          rw [HR.out, HGA.out]
          by_cases h0 : 0 ≤ k
          · have h1 : ¬ k < ((xb, xl) : Int × Int).2 := fun h => by
              have h : k < xl := h
              rw [inB_iff.2 ⟨h0, by omega⟩] at hB2
              cases hB2
            rw [decide_eq_false h1]; simp
          · rw [decide_eq_false h0]; simp)
        clear hB2
        go_wp2_with (first
          | ((with_reducible show wpList _ _ _ (Oper.mk _ (.load 43 _) _ _ _ _ :: _) _ _); first | refine ld_prg HP0.out (lst_ten u) rfl _ rfl rfl ?_ | refine ld_prg HP1.out (lst_ten u) rfl _ rfl rfl ?_)
          | ((with_reducible show wpList _ _ _ (Oper.mk _ (.load 46 _) _ _ _ _ :: _) _ _); refine ld_mac HM1.out rfl rfl _ rfl rfl ?_)
          | (go_at_call 29; (with_reducible refine (CV.out _ HB0.out).mono ?_); rintro e1 w1 ⟨rfl, hb1⟩)
          | (go_at_call 40; (with_reducible refine (CM.out _ HB1.out).mono ?_); rintro e2 w2 ⟨rfl, hb2⟩; have x8 : w2.cell? ⟨gp, 8, none⟩ = some (.slice (some ad) rn u.rc) := ((HP1.out.keep hb2).2.1 8).trans HL8.out; have r1 := (hb2.cell HRZ.out).trans HR1.out)
          | (go_at_call 64; first | ((with_reducible refine (in_is HI1.out _).mono ?_); rintro e3 w3 ⟨rfl, rfl⟩) | ((with_reducible refine (in_is HI2.out _).mono ?_); rintro e4 w4 ⟨rfl, rfl⟩)))
        go_ret2
        exact ⟨by unfold wrdV wrdE; rw [HV.out, HO.out]; rfl, below_then HB1.out hb2⟩
      | true =>
      have hki := inB_iff.1 hB2
      clear hB2
      have HO : Hid (wokB u.d x.m ka k = true) := Lib.hid (by
        unfold wokB
        rw [HR.out, HGA.out, HRN.out, decide_eq_true q1, decide_eq_true q2, decide_eq_true (by omega : 0 ≤ k), decide_eq_true (by show k < xl; omega : k < ((xb, xl) : Int × Int).2)]; rfl)
      go_upto_region 5 with (first
    | ((with_reducible show wpList _ _ _ (Oper.mk _ (.load 43 _) _ _ _ _ :: _) _ _); first | refine ld_prg HP0.out (lst_ten u) rfl _ rfl rfl ?_ | refine ld_prg HP1.out (lst_ten u) rfl _ rfl rfl ?_)
    | ((with_reducible show wpList _ _ _ (Oper.mk _ (.load 46 _) _ _ _ _ :: _) _ _); refine ld_mac HM1.out rfl rfl _ rfl rfl ?_)
    | (go_at_call 29; (with_reducible refine (CV.out _ HB0.out).mono ?_); rintro e1 w1 ⟨rfl, hb1⟩)
    | (go_at_call 40; (with_reducible refine (CM.out _ HB1.out).mono ?_); rintro e2 w2 ⟨rfl, hb2⟩; have x8 : w2.cell? ⟨gp, 8, none⟩ = some (.slice (some ad) rn u.rc) := ((HP1.out.keep hb2).2.1 8).trans HL8.out; have r1 := (hb2.cell HRZ.out).trans HR1.out)
          | (go_at_call 64; first | ((with_reducible refine (in_is HI1.out _).mono ?_); rintro e3 w3 ⟨rfl, rfl⟩) | ((with_reducible refine (in_is HI2.out _).mono ?_); rintro e4 w4 ⟨rfl, rfl⟩)))
      all_goals (try (exfalso; omega))
      have HB2 := Lib.hid (below_then HB1.out hb2)
      have HP2 := Lib.hid (HP1.out.keep hb2)
      have HM2 := Lib.hid (HM1.out.keep hb2)
      clear x8 r1 hb2 HB1 HP1 HM1 CM HR1 HRZ
      -- the place
      have hok := (macB_parts HR.out).2.1
      have hhl := hok.hl
      rw [HRN.out] at hhl
      have hhk := headsB_at hok.hw (k := ka) (by rw [hhl]; exact hka)
      obtain ⟨P, hP⟩ : ∃ p, plc u.d x.m.heads (ka : Int) k = p := ⟨_, rfl⟩
      obtain ⟨p0, p1⟩ : 0 ≤ P ∧ P < 128 := by
        rw [← hP]
        unfold plc
        rw [HGA.out]
        simp only
        have e1 := Int.emod_nonneg (x.m.heads.getD ((ka : Int)).toNat 0 + k) (show xl ≠ 0 by omega)
        have e2 := Int.emod_lt_of_pos (x.m.heads.getD ((ka : Int)).toNat 0 + k) (show 0 < xl by omega)
        omega
      have CPl : Hid (∀ w1, Below W0.heap.size W0 w1 → True) := Lib.hid fun _ _ => trivial
      have CP : Hid (∀ w1, Below w.heap.size w w1 → Calls Tryd.prog 68 #[.agg u.lst.toArray, .agg x.lst.toArray, .int .i64 (ka : Int), .int .i64 k] w1 fun e w' => e = .returned (.int .i64 P) ∧ Below w1.heap.size w1 w') := Lib.hid fun w1 hb => by
        rw [← hP]
        exact r39_place u x.GA x.MA x.HA x.m.regs.length x.gc x.m.mem.length x.mc x.m.heads.length x.hc ka x.m.heads x.m.cyc x.m.stl k w1 (HPT.out.1.grow hb) HV.out (HXT.out.2.2.grow hb) rfl (by rw [HRN.out]; exact hka) (by rw [hhl]; exact hka) hhk (by omega)
      obtain ⟨PN, rfl⟩ : ∃ n : Nat, P = (n : Int) := Int.eq_ofNat_of_zero_le p0
      obtain ⟨ma, y, hMA, hbk, hy, hcc, i1, i2⟩ := (HXT.out.2.1.grow HB2.out).at_ (k := PN) (by rw [hok.ml]; omega)
      have HML : Hid (x.m.mem.length = 128) := Lib.hid hok.ml
      have HY : Hid (x.m.mem.getD (plc u.d x.m.heads (ka : Int) k).toNat 0 = y) := Lib.hid (by rw [hP, show ((PN : Int)).toNat = PN from rfl, List.getD_eq_getElem?_getD, hy]; rfl)
      have hz : (ma.add PN).block < w2.heap.size := by rw [block_add]; exact hbk
      have HZ := Lib.hid hz
      have HCC := Lib.hid hcc
      have HMA := Lib.hid hMA
      have p2 : (PN : Int) < 128 := p1
      clear hok hhl hhk hP hMA hbk hy hcc hz CPl hin
      refine wp_region_grow8 (fun i => Nat.blt i 9) (fun _ => false) (fun w' => Below w2.heap.size w2 w') (fun a b => Below a.heap.size a b) (wrdF u x gm (ka : Int) k (PN : Int) ma y) (by kernel_rfl) (by kernel_rfl) (Below.drew (Below.refl _ _)) (fun a b h1 h2 => ⟨below_then h1 h2, fun i _ v h => wrdF_keep i v h⟩) (fun w _ => Below.refl _ _) ?_ (fun j o _ _ h => by cases h) ?_
      · refine ⟨?_, ?_, ?_, ?_, ?_, ?_, ?_, ?_, ?_, trivial⟩
        all_goals
          intro vs w5 hp hF
          have HPX : Hid (Box w5 gp u.lst ∧ Box w5 gm x.lst ∧ Below w.heap.size w w5) := Lib.hid ⟨HP2.out.keep hp, HM2.out.keep hp, below_then HB2.out hp⟩
          have HQ5 := Lib.hid hp
          clear hp
          simp [depsB, Region.binds, wrdF] at hF
          simp [stL, depsB, Region.binds, Act.put, hF]
        · go_wp2_with fail
          exact ⟨rfl, Below.refl _ _⟩
        · have y1 : w5.cell? ⟨gm, 1, none⟩ = some (.slice x.MA x.m.mem.length x.mc) := HPX.out.2.1.2.1 1
          go_wp2_with fail
          exact ⟨rfl, Below.refl _ _⟩
        · refine ld_prg HPX.out.1 (lst_ten u) rfl _ rfl rfl ?_
          exact wpList_nil ⟨rfl, _, rfl, rfl, Below.refl _ _⟩
        · refine ld_mac HPX.out.2.1 rfl rfl _ rfl rfl ?_
          exact wpList_nil ⟨rfl, _, rfl, rfl, Below.refl _ _⟩
        · go_wp2_with fail
          exact ⟨rfl, Below.refl _ _⟩
        · go_wp2_with fail
          exact ⟨rfl, Below.refl _ _⟩
        · go_wp2_with (go_at_call 68; (with_reducible refine (CP.out _ HPX.out.2.2).mono ?_); rintro e6 w6 ⟨rfl, hb6⟩)
          first | exact ⟨rfl, hb6⟩ | rfl
        · rw [HMA.out, HML.out]
          go_wp2_with fail
          exact ⟨rfl, Below.refl _ _⟩
        · have y1 : w5.cell? (ma.add PN) = some (.int .i64 y) := (HQ5.out.cell HZ.out).trans HCC.out
          go_wp2_with fail
          exact ⟨rfl, Below.refl _ _⟩
      intro vs w5 hC hF
      have e8 : vs 8 = .int .i64 y := hF 8 (by decide) rfl
      have HC := Lib.hid hC
      clear hF hC
      show wpList Tryd.prog _ _ [_, _] _ _
      simp [stL, Act.put, e8]
      go_wp2_with fail
      go_ret2
      exact ⟨by unfold wrdV wrdE; rw [HV.out, HO.out, ← HY.out]; rfl, below_then HB2.out HC.out⟩
end Go.Proofs.YtgdccmmcjicgkaaDoor
end
