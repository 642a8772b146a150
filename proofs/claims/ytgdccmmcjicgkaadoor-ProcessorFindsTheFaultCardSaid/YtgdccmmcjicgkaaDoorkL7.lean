/- The law ProcessorFindsTheFault. Printed by gen_l7.py. -/
import Derived.Test.YtgdccmmcjicgkaaDoorkL6toOf
import Derived.Test.YtgdccmmcjicgkaaDoorkS9toS19
import Derived.Test.YtgdccmmcjicgkaaDoorkJi
import Derived.Test.YtgdccmmcjicgkaaDoorkOdtoS1
set_option linter.unusedVariables false
set_option linter.unusedSimpArgs false
namespace Go.Proofs.YtgdccmmcjicgkaaDoor
open Go.RowKit
theorem InsAt.takeL {w : World} {A : Option Addr} {l : List Ins} (h : InsAt w A l) (k : Nat) : InsAt w A (l.take k) := fun j i hj => h j i (by
  rw [List.getElem?_take] at hj
  split at hj
  · exact hj
  · cases hj)
theorem InsAt.dropL {w : World} {A : Option Addr} {l : List Ins} {c k : Nat} (h : InsAt w A l) (hc : l.length ≤ c) : InsAt w (if c = k then A else A.map (fun x => x.add (k * 4))) (l.drop k) := fun j i hj => by
  rw [List.getElem?_drop] at hj
  obtain ⟨ad, e, h1, h2, h3, h4⟩ := h (k + j) i hj
  have hlt : k + j < l.length := (List.getElem?_eq_some_iff.1 hj).1
  rw [if_neg (by omega), e]
  refine ⟨ad.add (k * 4), rfl, ?_, ?_, ?_, h4⟩
  · rw [add_noneI h1]
  · rw [add_noneI h1]; exact h2
  · rw [add_noneI h1]
    show w.rangeAt ad.block (ad.off + k * 4 + j * 4) i.cells
    rw [show ad.off + k * 4 + j * 4 = ad.off + (k + j) * 4 by omega]
    exact h3
theorem fault_at {d : PrgD} (hv : validB d = true) (h5 : d.code.length ≤ 511) {k : Nat} (hk : k < d.code.length) {bad : Ins} (hb : bad = ⟨0, 0, 0, 0⟩ ∨ bad = ⟨4, (d.rg.length : Int), 0, 0⟩) : chkF { d with code := d.code.take k ++ [bad] ++ d.code.drop k } = ((k : Int), 21) := by
  obtain ⟨v1, v2, v3, v4⟩ := valid_parts hv
  have hlen : (d.code.take k ++ [bad] ++ d.code.drop k).length = d.code.length + 1 := by simp; omega
  have hkl : (d.code.take k).length = k := by rw [List.length_take]; omega
  refine chk_at (d := { d with code := d.code.take k ++ [bad] ++ d.code.drop k }) v1 v2 ?_ ?_ ?_ ?_
  · show inB ((d.code.take k ++ [bad] ++ d.code.drop k).length : Nat) 1 512 = true
    rw [hlen, inB_iff.2 (by omega)]
  · show k < (d.code.take k ++ [bad] ++ d.code.drop k).length
    omega
  · intro j hj
    have hg := v4 j (by omega)
    have e : (d.code.take k ++ [bad] ++ d.code.drop k).getD j Ins.zero = d.code.getD j Ins.zero := by
      rw [List.getD_eq_getElem?_getD, List.getD_eq_getElem?_getD, List.append_assoc, List.getElem?_append_left (by omega), List.getElem?_take, if_pos hj]
    unfold goodAt at hg ⊢
    show (suitB d ((d.code.take k ++ [bad] ++ d.code.drop k).getD j Ins.zero) && (decide (((d.code.take k ++ [bad] ++ d.code.drop k).getD j Ins.zero).op = 0) == decide (j + 1 = (d.code.take k ++ [bad] ++ d.code.drop k).length))) = true
    rw [e, hlen]
    rw [show decide (j + 1 = d.code.length) = false from decide_eq_false (by omega)] at hg
    rw [show decide (j + 1 = d.code.length + 1) = false from decide_eq_false (by omega)]
    exact hg
  · have e : (d.code.take k ++ [bad] ++ d.code.drop k).getD k Ins.zero = bad := by
      rw [List.getD_eq_getElem?_getD, List.append_assoc, List.getElem?_append_right (by omega), hkl, Nat.sub_self]
      rfl
    unfold goodAt
    show (suitB d ((d.code.take k ++ [bad] ++ d.code.drop k).getD k Ins.zero) && (decide (((d.code.take k ++ [bad] ++ d.code.drop k).getD k Ins.zero).op = 0) == decide (k + 1 = (d.code.take k ++ [bad] ++ d.code.drop k).length))) = false
    rw [e, hlen, show decide (k + 1 = d.code.length + 1) = false from decide_eq_false (by omega)]
    rcases hb with rfl | rfl
    · rw [show decide ((⟨0, 0, 0, 0⟩ : Ins).op = 0) = true from decide_eq_true rfl]
      exact Bool.and_false _
    · have : suitB d ⟨4, (d.rg.length : Int), 0, 0⟩ = false := by
        unfold suitB fitI
        simp
      rw [this]
      rfl
def ffF (b gp : Nat) (CA CB : Option Addr) (cn cc k : Nat) (bad : Ins) (l : List Ins) : Nat → Value → World → Prop
  | 0, v, w => (∃ p, v = .slice (some p) 0 0) ∧ OwnIR b w v []
  | 1, v, _ | 9, v, _ => v = .pointer (some ⟨gp, 9, none⟩)
  | 2, v, _ | 10, v, _ => v = .slice CA cn cc
  | 3, v, _ | 11, v, _ => v = .int .i64 (k : Int)
  | 4, v, _ => v = .slice CA k cc
  | 6, v, _ => v = bad.v
  | 12, v, _ => v = .slice CB (cn - k) (cc - k)
  | _, _, _ => True
theorem ffF_keep {b gp : Nat} {CA CB : Option Addr} {cn cc k : Nat} {bad : Ins} {l : List Ins} {w w' : World} (h : Below w.heap.size w w') : ∀ i v, ffF b gp CA CB cn cc k bad l i v w → ffF b gp CA CB cn cc k bad l i v w'
  | 0, _, ⟨e, o⟩ => ⟨e, o.grow h⟩
  | 1, _, e | 2, _, e | 3, _, e | 4, _, e | 6, _, e | 9, _, e | 10, _, e | 11, _, e | 12, _, e => e
  | 5, _, _ | 7, _, _ | 8, _, _ => True.intro
  | n + 13, _, _ => True.intro
def ffI (W : World) (gp : Nat) (CA CB : Option Addr) (cn cc k : Nat) (bad : Ins) (l : List Ins) (S : Nat → Bool) (vs : Nat → Value) (w : World) : Prop :=
  Below W.heap.size W w ∧ (∀ i, S i = true → i ≠ 0 → ffF W.heap.size gp CA CB cn cc k bad l i (vs i) w) ∧ (S 8 = false → (S 0 = true → ffF W.heap.size gp CA CB cn cc k bad l 0 (vs 0) w) ∧ (S 5 = true → OwnIR W.heap.size w (vs 5) (l.take k)) ∧ (S 7 = true → ∃ q, vs 7 = .slice (some ⟨q, 0, none⟩) 1 1 ∧ InsAt w (some ⟨q, 0, none⟩) [bad]))
    ∧ (S 8 = true → S 5 = true ∧ OwnIR W.heap.size w (vs 8) (l.take k ++ [bad]))
theorem ffI_zero (W : World) (gp : Nat) (CA CB : Option Addr) (cn cc k : Nat) (bad : Ins) (l : List Ins) : ffI W gp CA CB cn cc k bad l (fun _ => false) (fun _ => undef) W.drew :=
  ⟨Below.drew (Below.refl _ _), fun _ h => (Bool.false_ne_true h).elim, fun _ => ⟨fun h => (Bool.false_ne_true h).elim, fun h => (Bool.false_ne_true h).elim, fun h => (Bool.false_ne_true h).elim⟩, fun h => (Bool.false_ne_true h).elim⟩
theorem ffI_step {W : World} {gp : Nat} {CA CB : Option Addr} {cn cc k : Nat} {bad : Ins} {l : List Ins} {S : Nat → Bool} {vs : Nat → Value} {w w' : World} (j : Nat) (v : Value) (h : ffI W gp CA CB cn cc k bad l S vs w) (hj : j ≠ 8) (hb : Below w.heap.size w w')
    (hF : ffF W.heap.size gp CA CB cn cc k bad l j v w') (h5 : j = 5 → OwnIR W.heap.size w' v (l.take k)) (h7 : j = 7 → ∃ q, v = .slice (some ⟨q, 0, none⟩) 1 1 ∧ InsAt w' (some ⟨q, 0, none⟩) [bad]) :
    ffI W gp CA CB cn cc k bad l (fun i => S i || i == j) (fun i => if i = j then v else vs i) w' := by
  obtain ⟨a1, a2, a3, a4⟩ := h
  have n8 : (8 == j) = false := by simp; omega
  refine ⟨below_then a1 hb, fun i hi h0 => ?_, fun h8 => ?_, fun h8 => ?_⟩
  · by_cases e : i = j
    · subst e; simpa using hF
    · simp only [beq_eq_false_iff_ne.2 e, Bool.or_false] at hi
      simp only [if_neg e]
      exact ffF_keep hb i _ (a2 i hi h0)
  · simp only [n8, Bool.or_false] at h8
    obtain ⟨b1, b2, b3⟩ := a3 h8
    refine ⟨fun h => ?_, fun h => ?_, fun h => ?_⟩
    · by_cases e : 0 = j
      · subst e; simpa using hF
      · simp only [beq_eq_false_iff_ne.2 e, Bool.or_false] at h
        simp only [if_neg e]
        exact ffF_keep hb 0 _ (b1 h)
    · by_cases e : 5 = j
      · simp only [e, if_true]; exact h5 e.symm
      · simp only [beq_eq_false_iff_ne.2 e, Bool.or_false] at h
        simp only [if_neg e]
        exact (b2 h).grow hb
    · by_cases e : 7 = j
      · simp only [e, if_true]; exact h7 e.symm
      · simp only [beq_eq_false_iff_ne.2 e, Bool.or_false] at h
        simp only [if_neg e]
        obtain ⟨q, e1, e2⟩ := b3 h
        exact ⟨q, e1, e2.grow hb⟩
  · simp only [n8, Bool.or_false] at h8
    simp only [if_neg (show ¬ 8 = j by omega)]
    exact ⟨by show (S 5 || (5 == j)) = true; rw [(a4 h8).1]; rfl, (a4 h8).2.grow hb⟩
theorem ffI_mid {W : World} {gp : Nat} {CA CB : Option Addr} {cn cc k : Nat} {bad : Ins} {l : List Ins} {S : Nat → Bool} {vs : Nat → Value} {w w' : World} (v : Value) (h : ffI W gp CA CB cn cc k bad l S vs w) (hb : Below W.heap.size w w') (h5 : S 5 = true) (ho : OwnIR W.heap.size w' v (l.take k ++ [bad])) :
    ffI W gp CA CB cn cc k bad l (fun i => S i || i == 8) (fun i => if i = 8 then v else vs i) w' := by
  obtain ⟨a1, a2, a3, a4⟩ := h
  refine ⟨a1.trans hb, fun i hi h0 => ?_, fun h8 => ?_, fun _ => ⟨by show (S 5 || (5 == 8)) = true; rw [h5]; rfl, by simpa using ho⟩⟩
  · by_cases e : i = 8
    · subst e; exact True.intro
    · simp only [beq_eq_false_iff_ne.2 e, Bool.or_false] at hi
      simp only [if_neg e]
      have h := a2 i hi h0
      match i, h, h0 with
      | 0, _, h0 => exact absurd rfl h0
      | 1, h, _ | 2, h, _ | 3, h, _ | 4, h, _ | 6, h, _ | 9, h, _ | 10, h, _ | 11, h, _ | 12, h, _ => exact h
      | 5, _, _ | 7, _, _ | 8, _, _ => exact True.intro
      | n + 13, _, _ => exact True.intro
  · simp at h8
set_option maxRecDepth 100000 in
set_option maxHeartbeats 16000000 in
theorem law_ProcessorFindsTheFault (dd : DraftA) (at0 : Int) (ring : Bool) (w : World) (hf : PrAt w) (hd : DraftOk w dd) (hat : I64 at0) :
    Calls Tryd.prog 9 #[dd.v, .int .i64 at0, .bool ring] w fun e w' => e = .returned (.bool true) ∧ Below w.heap.size w w' := by
  have CK : Hid (∀ w1, Below w.heap.size w w1 → Calls Tryd.prog 12 #[] w1 fun e w' => e = .returned (.bool true) ∧ Below w1.heap.size w1 w') := Lib.hid fun w1 hb => known38 w1 (hf.grow hb)
  have HENT := Lib.hid (show Below w.heap.size w (w.alloc (.cells #[.int .i64 dd.dn, .int .i64 dd.cn, .slice dd.RA dd.rs.length dd.rc, .slice dd.OA dd.os.length dd.oc, .slice dd.FA dd.fs.length dd.fc] 38)) from (Below.refl _ _).alloc (Nat.le_refl _) _)
  have HBOX := Lib.hid (show Box (w.alloc (.cells #[.int .i64 dd.dn, .int .i64 dd.cn, .slice dd.RA dd.rs.length dd.rc, .slice dd.OA dd.os.length dd.oc, .slice dd.FA dd.fs.length dd.fc] 38)) w.heap.size dd.lst from Box.new rfl)
  obtain ⟨D, hD⟩ : ∃ x, dd.d 20 = x := ⟨_, rfl⟩
  have hv : validB D = true := by rw [← hD]; exact prgF_valid _ _ _ _ _ 20 (by omega)
  have hlen : D.code.length ≤ 21 := by
    rw [← hD]
    show (prgF _ _ _ _ _ 20).code.length ≤ 21
    have hl : (prgF dd.dn dd.cn dd.rs dd.os dd.fs 20).code.length = min dd.os.length 20 + 1 := by
      unfold prgF
      rw [List.length_append, codeK_length]; rfl
    rw [hl]; omega
  have hcl := (valid_parts hv).2.2.1
  have hrl := (valid_rl hv).1
  obtain ⟨cn, hcn⟩ : ∃ m, D.code.length = m := ⟨_, rfl⟩
  obtain ⟨rn, hrn⟩ : ∃ m, D.rg.length = m := ⟨_, rfl⟩
  have hc1 : 1 ≤ cn ∧ cn ≤ 21 := by omega
  have hr8 : rn ≤ 8 := by omega
  obtain ⟨k, hk⟩ : ∃ k : Nat, withinF at0 (cn : Int) = (k : Int) := Int.eq_ofNat_of_zero_le (within_in (by omega) at0).1
  have hkc : k < cn := by have := (within_in (m := (cn : Int)) (by omega) at0).2; omega
  obtain ⟨bad, hbad⟩ : ∃ b : Ins, b = if ring then ⟨4, (rn : Int), 0, 0⟩ else ⟨0, 0, 0, 0⟩ := ⟨_, rfl⟩
  have hbok : bad.ok := by
    rw [hbad]
    split
    · simp only [Ins.ok, I64]; omega
    · simp only [Ins.ok, I64]; omega
  obtain ⟨G, hG⟩ : ∃ g : PrgD, { D with code := D.code.take k ++ [bad] ++ D.code.drop k } = g := ⟨_, rfl⟩
  have hchk : chkF G = ((k : Int), 21) := by
    rw [← hG]
    refine fault_at hv (by omega) (by omega) ?_
    rw [hbad, hrn]
    cases ring
    · exact .inl rfl
    · exact .inr rfl
  have hgl : G.code.length = cn + 1 := by rw [← hG]; show (D.code.take k ++ [bad] ++ D.code.drop k).length = _; simp; omega
  have hgr : G.rg.length = rn := by rw [← hG]; exact hrn
  have CP : Hid (∀ w1, Below w.heap.size w w1 → Calls Tryd.prog 21 #[dd.v, .int .i64 20] w1 (RetPrgC w1 D)) := Lib.hid fun w1 hb => by
    rw [← hD]; exact dr_CodeC dd 20 w1 (hd.grow hb) (by omega)
  have CC : Hid (∀ w1 g, Below w.heap.size w w1 → PrgAt w1 g → g.d = G → Calls Tryd.prog 41 #[.agg g.lst.toArray] w1 fun e w' => e = .returned (.tuple #[.int .i64 (k : Int), .int .i64 21]) ∧ Below w1.heap.size w1 w') := Lib.hid fun w1 g hb h1 h2 => by
    have h := pr_Check g w1 (hf.forms.grow hb) h1 (by rw [h2, hgr]; omega) (by rw [h2, hgl]; omega)
    unfold RetChk at h
    rw [h2, hchk] at h
    exact h
  have CWi : Hid (∀ w1, Calls Tryd.prog 26 #[.int .i64 at0, .int .i64 (cn : Int)] w1 fun e w' => e = .returned (.int .i64 (k : Int)) ∧ w1 = w') := Lib.hid fun w1 => hk ▸ wd_Within at0 (cn : Int) w1 (by omega)
  have HCN := Lib.hid hcn
  have HRN := Lib.hid hrn
  have HG := Lib.hid hG
  have HGN := Lib.hid hgl
  have HOK := Lib.hid hbok
  have HBD := Lib.hid hbad
  have HTL : Hid ((D.code.take k).length = k ∧ (D.code.drop k).length = cn - k ∧ (D.code.take k ++ [bad]).length = k + 1) := Lib.hid ⟨by rw [List.length_take]; omega, by rw [List.length_drop]; omega, by rw [List.length_append, List.length_take]; simp; omega⟩
  have HLE : Hid (k ≤ 100000000 ∧ (D.code.take k).length + 1 ≤ 100000000 ∧ (D.code.take k ++ [bad]).length + (cn - k) ≤ 100000000) := Lib.hid ⟨by omega, by rw [List.length_take]; omega, by rw [List.length_append, List.length_take]; simp; omega⟩
  have k0 : (0 : Int) ≤ (k : Int) := by omega
  have k1 : (k : Int) ≤ (cn : Int) := by omega
  have k2 : (k : Int) < (cn : Int) := by omega
  have d1 : decide ((k : Int) = (k : Int)) = true := decide_eq_true rfl
  have d2 : ((k : Int) == (k : Int)) = true := by simp
  clear hf hd hD hv hlen hcl hrl hcn hrn hbad hbok hG hchk hgl hgr hk hat
  go_enter Tryd.func9, Tryd.ntmps9
  go_upto_region 1 with fail
  have HE0 := HENT.out
  have HX0 := HBOX.out
  generalize w.alloc (.cells #[.int .i64 dd.dn, .int .i64 dd.cn, .slice dd.RA dd.rs.length dd.rc, .slice dd.OA dd.os.length dd.oc, .slice dd.FA dd.fs.length dd.fc] 38) = w0 at HE0 HX0 ⊢
  have HB0 := Lib.hid HE0
  have HX := Lib.hid HX0
  clear HE0 HX0 HENT HBOX
  go_upto_region 2 with (first
    | ((with_reducible show wpList _ _ _ (Oper.mk _ (.load 38 _) _ _ _ _ :: _) _ _); refine ld_dft HX.out rfl _ rfl rfl ?_)
    | (go_at_call 21; (with_reducible refine (CP.out _ HB0.out).mono ?_); rintro e1 w1 ⟨u, hu, rfl, hat, hb1, hcap⟩)
    | ((with_reducible show wpList _ _ _ (Oper.mk none (.store 43 _ _) _ _ _ _ :: _) _ _); refine st_prgB (w := w1.alloc (.cells zeros10.toArray 43)) (M := zeros10) (g := w1.heap.size) (Box.new rfl) rfl (L := u.lst) (lst_ten u) (lst_one u) rfl _ _ rfl rfl rfl ?_; intro W2 b2 p2))
  have hb2 := put_facts ((Below.refl w1.heap.size w1).alloc (Nat.le_refl _) (.cells zeros10.toArray 43)) (Nat.le_refl _) p2
  have HB2 := Lib.hid (below_then (below_then HB0.out hb1) hb2)
  have HP2 := Lib.hid b2
  have HA2 := Lib.hid (hat.grow hb2)
  have HU := Lib.hid hu
  have hcc : cn ≤ u.cc := by rw [← HCN.out, ← hu]; exact hcap
  have HG2 : Hid (w1.heap.size < W2.heap.size) := Lib.hid b2.1
  have HGP : Hid (w.heap.size ≤ w1.heap.size) := Lib.hid (below_then HB0.out hb1).size
  have HR1 : Hid (∀ W, Below W2.heap.size W2 W → ∀ v, RingsAt (W.setCell ⟨w1.heap.size, 9, none⟩ v) u.RA u.d.rg) := Lib.hid fun W h v => hat.1.grow ((below_then hb2 h).setCell (p := ⟨w1.heap.size, 9, none⟩) (Nat.le_refl _) v)
  clear hb1 hb2 b2 p2 hat hu hcap CP HX HB0
  generalize w1.heap.size = gp at HP2 HG2 HGP HR1 ⊢
  obtain ⟨cc, hcce⟩ : ∃ c, u.cc = c := ⟨_, rfl⟩
  have HCE := Lib.hid hcce
  rw [hcce] at hcc
  have k3 : (k : Int) ≤ (cc : Int) := by omega
  have x8 : W2.cell? ⟨gp, 8, none⟩ = some (.slice u.RA rn u.rc) := by
    have := HP2.out.2.1 8
    rw [this]
    show some (Value.slice u.RA u.d.rg.length u.rc) = _
    rw [HU.out, HRN.out]
  have x8' : ∀ o, (W2.alloc o).cell? ⟨gp, 8, none⟩ = some (.slice u.RA rn u.rc) := fun o => (((Below.refl W2.heap.size W2).alloc (Nat.le_refl _) o).cell (p := ⟨gp, 8, none⟩) HG2.out).trans x8
  clear x8
  have x9 : W2.cell? ⟨gp, 9, none⟩ = some (.slice u.CA cn cc) := by
    have := HP2.out.2.1 9
    rw [this]
    show some (Value.slice u.CA u.d.code.length u.cc) = _
    rw [HU.out, HCN.out, hcce]
  have hia2 : InsAt W2 u.CA D.code := by have := HA2.out.2; rw [HU.out] at this; exact this
  have HIA2 := Lib.hid hia2
  clear hia2 hcce
  go_upto_region 3 with (go_at_call 26; (with_reducible refine (CWi.out _).mono ?_); rintro e2 w2 ⟨rfl, rfl⟩)
  -- the bad instruction
  cases ring

  · have HBE : Hid (bad = ⟨0, 0, 0, 0⟩) := Lib.hid HBD.out
    go_upto_region 6 with fail
    have hb3 : Below W2.heap.size W2 (W2.alloc (.cells #[.int .i64 0, .int .i64 0, .int .i64 0, .int .i64 0] 24)) := (Below.refl _ _).alloc (Nat.le_refl _) _
    have hx3 : Box (W2.alloc (.cells #[.int .i64 0, .int .i64 0, .int .i64 0, .int .i64 0] 24)) W2.heap.size bad.cells := by rw [HBE.out]; exact Box.new rfl
    generalize W2.alloc (.cells #[.int .i64 0, .int .i64 0, .int .i64 0, .int .i64 0] 24) = W3 at hb3 hx3 ⊢
    have HW23 := Lib.hid hb3
    have HB3 := Lib.hid (below_then HB2.out hb3)
    have HP3 := Lib.hid (HP2.out.keep hb3)
    have HA3 := Lib.hid (HA2.out.grow hb3)
    have HIA3 := Lib.hid (HIA2.out.grow hb3)
    have HX3 := Lib.hid hx3
    have HG3 : Hid (gp < W3.heap.size ∧ W2.heap.size < W3.heap.size) := Lib.hid ⟨Nat.lt_of_lt_of_le HG2.out hb3.size, hx3.1⟩
    clear hb3 hx3 x8' x9
    generalize W2.heap.size = gb at HX3 HG3 ⊢
    obtain ⟨CB, hCB⟩ : ∃ B, (if cc = k then u.CA else u.CA.map (fun y => y.add (k * 4))) = B := ⟨_, rfl⟩
    have HCB := Lib.hid hCB
    have HID3 : Hid (InsAt W3 CB (D.code.drop k)) := by rw [← hCB]; exact Lib.hid (HIA3.out.dropL (by rw [HCN.out]; exact hcc))
    have HIT3 := Lib.hid (HIA3.out.takeL k)
    clear hCB
    refine wp_region_growI (fun x => Nat.blt x 13) (ffI W3 gp u.CA CB cn cc k bad D.code) (by kernel_rfl) (by kernel_rfl) (ffI_zero _ _ _ _ _ _ _ _ _) ?_ ?_
    · refine ⟨?_, ?_, ?_, ?_, ?_, ?_, ?_, ?_, ?_, ?_, ?_, ?_, ?_, trivial⟩
      all_goals
        intro S vs w5 hS hd hI
        have HPX : Hid (Box w5 gp u.lst ∧ InsAt w5 u.CA (D.code.take k) ∧ Box w5 gb bad.cells) := Lib.hid ⟨HP3.out.keep hI.1, HIT3.out.grow hI.1, HX3.out.keep hI.1⟩
        have y9 : w5.cell? ⟨gp, 9, none⟩ = some (.slice u.CA cn cc) := by
          rw [HPX.out.1.2.1 9]
          show some (Value.slice u.CA u.d.code.length u.cc) = _
          rw [HU.out, HCN.out, HCE.out]
        have HI := Lib.hid hI
        have HS := Lib.hid hS
        clear hI hS
      · simp [stL, depsB, Region.binds, Act.put]
        go_wp2_with fail
        exact ffI_step 0 _ HI.out (by omega) (Below.alloc (Below.refl _ _) (Nat.le_refl _) _) ⟨⟨_, rfl⟩, emp_ins.base HI.out.1.size⟩ (fun h => by cases h) (fun h => by cases h)
      · simp [stL, depsB, Region.binds, Act.put]
        go_wp2_with fail
        exact ffI_step 1 _ HI.out (by omega) (Below.refl _ _) rfl (fun h => by cases h) (fun h => by cases h)
      · have e1 : vs 1 = .pointer (some ⟨gp, 9, none⟩) := HI.out.2.1 1 (hd 1 rfl) (by decide)
        simp [stL, depsB, Region.binds, Act.put, e1]
        go_wp2_with fail
        exact ffI_step 2 _ HI.out (by omega) (Below.refl _ _) rfl (fun h => by cases h) (fun h => by cases h)
      · simp [stL, depsB, Region.binds, Act.put]
        go_wp2_with fail
        exact ffI_step 3 _ HI.out (by omega) (Below.refl _ _) rfl (fun h => by cases h) (fun h => by cases h)
      · have e2 : vs 2 = .slice u.CA cn cc := HI.out.2.1 2 (hd 2 rfl) (by decide)
        have e3 : vs 3 = .int .i64 (k : Int) := HI.out.2.1 3 (hd 3 rfl) (by decide)
        simp [stL, depsB, Region.binds, Act.put, e2, e3]
        go_wp2_with fail
        exact ffI_step 4 _ HI.out (by omega) (Below.refl _ _) rfl (fun h => by cases h) (fun h => by cases h)
      · have e4 : vs 4 = .slice u.CA k cc := HI.out.2.1 4 (hd 4 rfl) (by decide)
        by_cases h8 : S 8 = true
        · have h5 := (HI.out.2.2.2 h8).1
          rw [HS.out] at h5; cases h5
        · have h8 : S 8 = false := by simpa using h8
          obtain ⟨⟨p, e0⟩, o0⟩ := (HI.out.2.2.1 h8).1 (hd 0 rfl)
          rw [e0] at o0
          simp [stL, depsB, Region.binds, Act.put, e0, e4]
          refine app_ins0 w5 rfl _ _ rfl W3.heap.size rfl rfl o0 HPX.out.2.1 HTL.out.1 HLE.out.1 HI.out.1.size ?_
          intro v' w' h1 h2
          exact wpList_nil ⟨rfl, v', rfl, ffI_step 5 _ HI.out (by omega) h2 True.intro (fun _ => h1) (fun h => by cases h)⟩
      · simp [stL, depsB, Region.binds, Act.put]
        refine ld_ins HPX.out.2.2 rfl _ rfl rfl ?_
        exact wpList_nil ⟨rfl, _, rfl, ffI_step 6 _ HI.out (by omega) (Below.refl _ _) rfl (fun h => by cases h) (fun h => by cases h)⟩
      · have e6 : vs 6 = bad.v := HI.out.2.1 6 (hd 6 rfl) (by decide)
        simp [stL, depsB, Region.binds, Act.put, e6]
        refine bld_ins1 (i := bad) rfl _ rfl rfl ?_
        refine wpList_nil ⟨rfl, _, rfl, ffI_step 7 _ HI.out (by omega) ((Below.refl _ _).alloc (Nat.le_refl _) _) True.intro (fun h => by cases h) (fun _ => ⟨_, rfl, ?_⟩)⟩
        obtain ⟨A1, c1, e1, -, h1⟩ := (OwnIR.single (w := w5) (i := bad) HOK.out).form
        injection e1 with e1
        rw [e1]; exact h1
      · obtain ⟨b0, b5, b7⟩ := HI.out.2.2.1 HS.out
        have o5 := b5 (hd 5 rfl)
        obtain ⟨q, e7, h7⟩ := b7 (hd 7 rfl)
        obtain ⟨v5, hv5⟩ : ∃ v, vs 5 = v := ⟨_, rfl⟩
        rw [hv5] at o5
        simp [stL, depsB, Region.binds, Act.put, hv5, e7]
        refine app_ins w5 rfl _ _ rfl W3.heap.size (m := [bad]) rfl rfl o5 h7 rfl HLE.out.2.1 HI.out.1.size ?_
        intro v' w' h1 h2
        exact wpList_nil ⟨rfl, v', rfl, ffI_mid _ HI.out h2 (hd 5 rfl) h1⟩
      · simp [stL, depsB, Region.binds, Act.put]
        go_wp2_with fail
        exact ffI_step 9 _ HI.out (by omega) (Below.refl _ _) rfl (fun h => by cases h) (fun h => by cases h)
      · have e9 : vs 9 = .pointer (some ⟨gp, 9, none⟩) := HI.out.2.1 9 (hd 9 rfl) (by decide)
        simp [stL, depsB, Region.binds, Act.put, e9]
        go_wp2_with fail
        exact ffI_step 10 _ HI.out (by omega) (Below.refl _ _) rfl (fun h => by cases h) (fun h => by cases h)
      · simp [stL, depsB, Region.binds, Act.put]
        go_wp2_with fail
        exact ffI_step 11 _ HI.out (by omega) (Below.refl _ _) rfl (fun h => by cases h) (fun h => by cases h)
      · have e10 : vs 10 = .slice u.CA cn cc := HI.out.2.1 10 (hd 10 rfl) (by decide)
        have e11 : vs 11 = .int .i64 (k : Int) := HI.out.2.1 11 (hd 11 rfl) (by decide)
        simp [stL, depsB, Region.binds, Act.put, e10, e11]
        have hY := HCB.out
        by_cases hxk : cc = k
        · rw [if_pos hxk] at hY
          exfalso; omega
        · rw [if_neg hxk] at hY
          subst hY
          have hxk' := Lib.hid hxk
          clear hxk
          go_wp2_with fail
          all_goals first
            | exact ffI_step 12 _ HI.out (by omega) (Below.refl _ _) rfl (fun h => by cases h) (fun h => by cases h)
            | (exfalso; have := hxk'.out; omega)
    intro S vs w5 hS hI
    have o8 := (hI.2.2.2 (hS 8 (by decide))).2
    have e12 : vs 12 = .slice CB (cn - k) (cc - k) := hI.2.1 12 (hS 12 (by decide)) (by decide)
    obtain ⟨v8, hv8⟩ : ∃ v, vs 8 = v := ⟨_, rfl⟩
    rw [hv8] at o8
    show wpList Tryd.prog _ _ [_, _] _ _
    simp [stL, Act.put, hv8, e12]
    refine app_ins w5 rfl _ _ rfl W3.heap.size rfl rfl o8 (HID3.out.grow hI.1) HTL.out.2.1 HLE.out.2.2 hI.1.size ?_
    intro v9 w9 h9 hb9
    have hb39 : Below W3.heap.size W3 w9 := hI.1.trans hb9
    obtain ⟨A9, c9, e9, -, -⟩ := h9.form
    subst e9
    have hl9 : (D.code.take k ++ [bad] ++ D.code.drop k).length = cn + 1 := by have h := HGN.out; rw [← HG.out] at h; exact h
    rw [hl9] at h9 ⊢
    have HW9 := Lib.hid hb39
    have HO9 := Lib.hid h9
    have HP9 := Lib.hid (HP3.out.keep hb39)
    have z9 : w9.frozen? ⟨gp, 9, none⟩ = false := HP9.out.2.2 9
    have y9 : w9.cell? ⟨gp, 9, none⟩ = some (.slice u.CA u.d.code.length u.cc) := HP9.out.2.1 9
    clear hS hI o8 e12 hv8 h9 hb9 hb39
    simp only [Act.put]
    generalize vs 0 = q0
    generalize vs 1 = q1
    generalize vs 2 = q2
    generalize vs 3 = q3
    generalize vs 4 = q4
    generalize vs 5 = q5
    generalize vs 6 = q6
    generalize vs 7 = q7
    generalize vs 9 = q9
    generalize vs 10 = q10
    generalize vs 11 = q11
    go_upto_region 8 with fail
    have hp10 := HP9.out.set (k := 9) (u := .slice A9 (cn + 1) c9) (by show 9 < 10; omega)
    have hw10 : Below w.heap.size w (w9.setCell ⟨gp, 9, none⟩ (.slice A9 (cn + 1) c9)) := (below_then HB3.out HW9.out).setCell (p := ⟨gp, 9, none⟩) HGP.out _
    obtain ⟨A10, c10, e10, -, i10⟩ := (HO9.out.store (k := 9) (u := .slice A9 (cn + 1) c9) HG3.out.1).form
    injection e10 with e10a e10b e10c
    subst e10a
    have hra10 : RingsAt (w9.setCell ⟨gp, 9, none⟩ (.slice A9 (cn + 1) c9)) u.RA u.d.rg := HR1.out _ (below_then HW23.out HW9.out) _
    clear e10b e10c y9 z9
    generalize w9.setCell ⟨gp, 9, none⟩ (.slice A9 (cn + 1) c9) = W10 at hp10 i10 hw10 hra10 ⊢
    obtain ⟨g, hgd⟩ : ∃ g : PrgA, g = ⟨G, u.RA, A9, u.rc, c9⟩ := ⟨_, rfl⟩
    have hgG : g.d = G := by rw [hgd]
    have hlst : u.lst.set 9 (.slice A9 (cn + 1) c9) = g.lst := by
      rw [hgd, ← HGN.out, ← HG.out, ← HU.out]
      rfl
    rw [hlst] at hp10
    have hat10 : PrgAt W10 g := by
      rw [hgd]
      refine ⟨?_, ?_⟩
      · show RingsAt W10 u.RA G.rg
        rw [← HG.out, ← HU.out]; exact hra10
      · show InsAt W10 A9 G.code
        rw [← HG.out]; exact i10
    have HP10 := Lib.hid hp10
    have HA10 := Lib.hid hat10
    have HB10 := Lib.hid hw10
    have HGG := Lib.hid hgG
    clear hp10 hat10 hw10 hra10 i10 hlst hgd hgG
    go_upto_region 9 with (first
      | ((with_reducible show wpList _ _ _ (Oper.mk _ (.load 43 _) _ _ _ _ :: _) _ _); refine ld_prg HP10.out (lst_ten g) rfl _ rfl rfl ?_)
      | (go_at_call 41; (with_reducible refine (CC.out _ _ HB10.out HA10.out HGG.out).mono ?_); rintro e11 w11 ⟨rfl, hb11⟩))
    have HB11 := Lib.hid (below_then HB10.out hb11)
    clear hb11
    go_wp2_with (go_at_call 12; (with_reducible refine (CK.out _ HB11.out).mono ?_); rintro e12 w12 ⟨rfl, hb12⟩)
    go_ret
    exact ⟨rfl, below_then HB11.out hb12⟩
  · have HBE : Hid (bad = ⟨4, (rn : Int), 0, 0⟩) := Lib.hid HBD.out
    go_upto_region 6 with fail
    have hb3 : Below W2.heap.size W2 (W2.alloc (.cells #[.int .i64 4, .int .i64 (rn : Int), .int .i64 0, .int .i64 0] 24)) := (Below.refl _ _).alloc (Nat.le_refl _) _
    have hx3 : Box (W2.alloc (.cells #[.int .i64 4, .int .i64 (rn : Int), .int .i64 0, .int .i64 0] 24)) W2.heap.size bad.cells := by rw [HBE.out]; exact Box.new rfl
    generalize W2.alloc (.cells #[.int .i64 4, .int .i64 (rn : Int), .int .i64 0, .int .i64 0] 24) = W3 at hb3 hx3 ⊢
    have HW23 := Lib.hid hb3
    have HB3 := Lib.hid (below_then HB2.out hb3)
    have HP3 := Lib.hid (HP2.out.keep hb3)
    have HA3 := Lib.hid (HA2.out.grow hb3)
    have HIA3 := Lib.hid (HIA2.out.grow hb3)
    have HX3 := Lib.hid hx3
    have HG3 : Hid (gp < W3.heap.size ∧ W2.heap.size < W3.heap.size) := Lib.hid ⟨Nat.lt_of_lt_of_le HG2.out hb3.size, hx3.1⟩
    clear hb3 hx3 x8' x9
    generalize W2.heap.size = gb at HX3 HG3 ⊢
    obtain ⟨CB, hCB⟩ : ∃ B, (if cc = k then u.CA else u.CA.map (fun y => y.add (k * 4))) = B := ⟨_, rfl⟩
    have HCB := Lib.hid hCB
    have HID3 : Hid (InsAt W3 CB (D.code.drop k)) := by rw [← hCB]; exact Lib.hid (HIA3.out.dropL (by rw [HCN.out]; exact hcc))
    have HIT3 := Lib.hid (HIA3.out.takeL k)
    clear hCB
    refine wp_region_growI (fun x => Nat.blt x 13) (ffI W3 gp u.CA CB cn cc k bad D.code) (by kernel_rfl) (by kernel_rfl) (ffI_zero _ _ _ _ _ _ _ _ _) ?_ ?_
    · refine ⟨?_, ?_, ?_, ?_, ?_, ?_, ?_, ?_, ?_, ?_, ?_, ?_, ?_, trivial⟩
      all_goals
        intro S vs w5 hS hd hI
        have HPX : Hid (Box w5 gp u.lst ∧ InsAt w5 u.CA (D.code.take k) ∧ Box w5 gb bad.cells) := Lib.hid ⟨HP3.out.keep hI.1, HIT3.out.grow hI.1, HX3.out.keep hI.1⟩
        have y9 : w5.cell? ⟨gp, 9, none⟩ = some (.slice u.CA cn cc) := by
          rw [HPX.out.1.2.1 9]
          show some (Value.slice u.CA u.d.code.length u.cc) = _
          rw [HU.out, HCN.out, HCE.out]
        have HI := Lib.hid hI
        have HS := Lib.hid hS
        clear hI hS
      · simp [stL, depsB, Region.binds, Act.put]
        go_wp2_with fail
        exact ffI_step 0 _ HI.out (by omega) (Below.alloc (Below.refl _ _) (Nat.le_refl _) _) ⟨⟨_, rfl⟩, emp_ins.base HI.out.1.size⟩ (fun h => by cases h) (fun h => by cases h)
      · simp [stL, depsB, Region.binds, Act.put]
        go_wp2_with fail
        exact ffI_step 1 _ HI.out (by omega) (Below.refl _ _) rfl (fun h => by cases h) (fun h => by cases h)
      · have e1 : vs 1 = .pointer (some ⟨gp, 9, none⟩) := HI.out.2.1 1 (hd 1 rfl) (by decide)
        simp [stL, depsB, Region.binds, Act.put, e1]
        go_wp2_with fail
        exact ffI_step 2 _ HI.out (by omega) (Below.refl _ _) rfl (fun h => by cases h) (fun h => by cases h)
      · simp [stL, depsB, Region.binds, Act.put]
        go_wp2_with fail
        exact ffI_step 3 _ HI.out (by omega) (Below.refl _ _) rfl (fun h => by cases h) (fun h => by cases h)
      · have e2 : vs 2 = .slice u.CA cn cc := HI.out.2.1 2 (hd 2 rfl) (by decide)
        have e3 : vs 3 = .int .i64 (k : Int) := HI.out.2.1 3 (hd 3 rfl) (by decide)
        simp [stL, depsB, Region.binds, Act.put, e2, e3]
        go_wp2_with fail
        exact ffI_step 4 _ HI.out (by omega) (Below.refl _ _) rfl (fun h => by cases h) (fun h => by cases h)
      · have e4 : vs 4 = .slice u.CA k cc := HI.out.2.1 4 (hd 4 rfl) (by decide)
        by_cases h8 : S 8 = true
        · have h5 := (HI.out.2.2.2 h8).1
          rw [HS.out] at h5; cases h5
        · have h8 : S 8 = false := by simpa using h8
          obtain ⟨⟨p, e0⟩, o0⟩ := (HI.out.2.2.1 h8).1 (hd 0 rfl)
          rw [e0] at o0
          simp [stL, depsB, Region.binds, Act.put, e0, e4]
          refine app_ins0 w5 rfl _ _ rfl W3.heap.size rfl rfl o0 HPX.out.2.1 HTL.out.1 HLE.out.1 HI.out.1.size ?_
          intro v' w' h1 h2
          exact wpList_nil ⟨rfl, v', rfl, ffI_step 5 _ HI.out (by omega) h2 True.intro (fun _ => h1) (fun h => by cases h)⟩
      · simp [stL, depsB, Region.binds, Act.put]
        refine ld_ins HPX.out.2.2 rfl _ rfl rfl ?_
        exact wpList_nil ⟨rfl, _, rfl, ffI_step 6 _ HI.out (by omega) (Below.refl _ _) rfl (fun h => by cases h) (fun h => by cases h)⟩
      · have e6 : vs 6 = bad.v := HI.out.2.1 6 (hd 6 rfl) (by decide)
        simp [stL, depsB, Region.binds, Act.put, e6]
        refine bld_ins1 (i := bad) rfl _ rfl rfl ?_
        refine wpList_nil ⟨rfl, _, rfl, ffI_step 7 _ HI.out (by omega) ((Below.refl _ _).alloc (Nat.le_refl _) _) True.intro (fun h => by cases h) (fun _ => ⟨_, rfl, ?_⟩)⟩
        obtain ⟨A1, c1, e1, -, h1⟩ := (OwnIR.single (w := w5) (i := bad) HOK.out).form
        injection e1 with e1
        rw [e1]; exact h1
      · obtain ⟨b0, b5, b7⟩ := HI.out.2.2.1 HS.out
        have o5 := b5 (hd 5 rfl)
        obtain ⟨q, e7, h7⟩ := b7 (hd 7 rfl)
        obtain ⟨v5, hv5⟩ : ∃ v, vs 5 = v := ⟨_, rfl⟩
        rw [hv5] at o5
        simp [stL, depsB, Region.binds, Act.put, hv5, e7]
        refine app_ins w5 rfl _ _ rfl W3.heap.size (m := [bad]) rfl rfl o5 h7 rfl HLE.out.2.1 HI.out.1.size ?_
        intro v' w' h1 h2
        exact wpList_nil ⟨rfl, v', rfl, ffI_mid _ HI.out h2 (hd 5 rfl) h1⟩
      · simp [stL, depsB, Region.binds, Act.put]
        go_wp2_with fail
        exact ffI_step 9 _ HI.out (by omega) (Below.refl _ _) rfl (fun h => by cases h) (fun h => by cases h)
      · have e9 : vs 9 = .pointer (some ⟨gp, 9, none⟩) := HI.out.2.1 9 (hd 9 rfl) (by decide)
        simp [stL, depsB, Region.binds, Act.put, e9]
        go_wp2_with fail
        exact ffI_step 10 _ HI.out (by omega) (Below.refl _ _) rfl (fun h => by cases h) (fun h => by cases h)
      · simp [stL, depsB, Region.binds, Act.put]
        go_wp2_with fail
        exact ffI_step 11 _ HI.out (by omega) (Below.refl _ _) rfl (fun h => by cases h) (fun h => by cases h)
      · have e10 : vs 10 = .slice u.CA cn cc := HI.out.2.1 10 (hd 10 rfl) (by decide)
        have e11 : vs 11 = .int .i64 (k : Int) := HI.out.2.1 11 (hd 11 rfl) (by decide)
        simp [stL, depsB, Region.binds, Act.put, e10, e11]
        have hY := HCB.out
        by_cases hxk : cc = k
        · rw [if_pos hxk] at hY
          exfalso; omega
        · rw [if_neg hxk] at hY
          subst hY
          have hxk' := Lib.hid hxk
          clear hxk
          go_wp2_with fail
          all_goals first
            | exact ffI_step 12 _ HI.out (by omega) (Below.refl _ _) rfl (fun h => by cases h) (fun h => by cases h)
            | (exfalso; have := hxk'.out; omega)
    intro S vs w5 hS hI
    have o8 := (hI.2.2.2 (hS 8 (by decide))).2
    have e12 : vs 12 = .slice CB (cn - k) (cc - k) := hI.2.1 12 (hS 12 (by decide)) (by decide)
    obtain ⟨v8, hv8⟩ : ∃ v, vs 8 = v := ⟨_, rfl⟩
    rw [hv8] at o8
    show wpList Tryd.prog _ _ [_, _] _ _
    simp [stL, Act.put, hv8, e12]
    refine app_ins w5 rfl _ _ rfl W3.heap.size rfl rfl o8 (HID3.out.grow hI.1) HTL.out.2.1 HLE.out.2.2 hI.1.size ?_
    intro v9 w9 h9 hb9
    have hb39 : Below W3.heap.size W3 w9 := hI.1.trans hb9
    obtain ⟨A9, c9, e9, -, -⟩ := h9.form
    subst e9
    have hl9 : (D.code.take k ++ [bad] ++ D.code.drop k).length = cn + 1 := by have h := HGN.out; rw [← HG.out] at h; exact h
    rw [hl9] at h9 ⊢
    have HW9 := Lib.hid hb39
    have HO9 := Lib.hid h9
    have HP9 := Lib.hid (HP3.out.keep hb39)
    have z9 : w9.frozen? ⟨gp, 9, none⟩ = false := HP9.out.2.2 9
    have y9 : w9.cell? ⟨gp, 9, none⟩ = some (.slice u.CA u.d.code.length u.cc) := HP9.out.2.1 9
    clear hS hI o8 e12 hv8 h9 hb9 hb39
    simp only [Act.put]
    generalize vs 0 = q0
    generalize vs 1 = q1
    generalize vs 2 = q2
    generalize vs 3 = q3
    generalize vs 4 = q4
    generalize vs 5 = q5
    generalize vs 6 = q6
    generalize vs 7 = q7
    generalize vs 9 = q9
    generalize vs 10 = q10
    generalize vs 11 = q11
    go_upto_region 8 with fail
    have hp10 := HP9.out.set (k := 9) (u := .slice A9 (cn + 1) c9) (by show 9 < 10; omega)
    have hw10 : Below w.heap.size w (w9.setCell ⟨gp, 9, none⟩ (.slice A9 (cn + 1) c9)) := (below_then HB3.out HW9.out).setCell (p := ⟨gp, 9, none⟩) HGP.out _
    obtain ⟨A10, c10, e10, -, i10⟩ := (HO9.out.store (k := 9) (u := .slice A9 (cn + 1) c9) HG3.out.1).form
    injection e10 with e10a e10b e10c
    subst e10a
    have hra10 : RingsAt (w9.setCell ⟨gp, 9, none⟩ (.slice A9 (cn + 1) c9)) u.RA u.d.rg := HR1.out _ (below_then HW23.out HW9.out) _
    clear e10b e10c y9 z9
    generalize w9.setCell ⟨gp, 9, none⟩ (.slice A9 (cn + 1) c9) = W10 at hp10 i10 hw10 hra10 ⊢
    obtain ⟨g, hgd⟩ : ∃ g : PrgA, g = ⟨G, u.RA, A9, u.rc, c9⟩ := ⟨_, rfl⟩
    have hgG : g.d = G := by rw [hgd]
    have hlst : u.lst.set 9 (.slice A9 (cn + 1) c9) = g.lst := by
      rw [hgd, ← HGN.out, ← HG.out, ← HU.out]
      rfl
    rw [hlst] at hp10
    have hat10 : PrgAt W10 g := by
      rw [hgd]
      refine ⟨?_, ?_⟩
      · show RingsAt W10 u.RA G.rg
        rw [← HG.out, ← HU.out]; exact hra10
      · show InsAt W10 A9 G.code
        rw [← HG.out]; exact i10
    have HP10 := Lib.hid hp10
    have HA10 := Lib.hid hat10
    have HB10 := Lib.hid hw10
    have HGG := Lib.hid hgG
    clear hp10 hat10 hw10 hra10 i10 hlst hgd hgG
    go_upto_region 9 with (first
      | ((with_reducible show wpList _ _ _ (Oper.mk _ (.load 43 _) _ _ _ _ :: _) _ _); refine ld_prg HP10.out (lst_ten g) rfl _ rfl rfl ?_)
      | (go_at_call 41; (with_reducible refine (CC.out _ _ HB10.out HA10.out HGG.out).mono ?_); rintro e11 w11 ⟨rfl, hb11⟩))
    have HB11 := Lib.hid (below_then HB10.out hb11)
    clear hb11
    go_wp2_with (go_at_call 12; (with_reducible refine (CK.out _ HB11.out).mono ?_); rintro e12 w12 ⟨rfl, hb12⟩)
    go_ret
    exact ⟨rfl, below_then HB11.out hb12⟩
end Go.Proofs.YtgdccmmcjicgkaaDoor
