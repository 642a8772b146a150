/- Several texts in one: G9 Vb Vc. -/
import Derived.Test.YtdiflpbioohddaaDoortG4toG8
import Derived.Test.YtdiflpbioohddaaDoortV3toG3
import Derived.Deep.DeepCutAuto
import Derived.Handy
set_option linter.unusedVariables false
set_option linter.unusedSimpArgs false
section
namespace Go.Proofs.YtdiflpbioohddaaDoor
open Go.RowKit
set_option maxRecDepth 100000 in
set_option maxHeartbeats 4000000 in
theorem nw_Valid (d0 d1 d2 d3 c0 c1 c2 c3 st out : Int) (NA XA : Option Addr) (nc xc : Nat) (ns : List (List (Int × Int))) (nx : List Int) (w : World) (hN : NodesAt w NA ns) (hX : Ints w XA nx) (h1 : ns.length ≤ 9223372036854775807) (h2 : nx.length ≤ 9223372036854775807) (h3 : ∀ ts ∈ ns, ts.length ≤ 9223372036854775807) (hst : I64 st) :
  Calls Tryd.prog 34 #[netV d0 d1 d2 d3 c0 c1 c2 c3 st NA ns.length nc XA nx.length xc out] w (BoolBw w (netB d0 d1 d2 d3 c0 c1 c2 c3 st ns nx out)) := by
 unfold netV
 obtain ⟨nn, hnn⟩ : ∃ n, ns.length = n := ⟨_, rfl⟩
 obtain ⟨xn, hxn⟩ : ∃ n, nx.length = n := ⟨_, rfl⟩
 have HNN := Lib.hid hnn
 have HXN := Lib.hid hxn
 rw [hnn] at h1 ⊢
 rw [hxn] at h2 ⊢
 have H3 := Lib.hid h3
 obtain ⟨s3, s4⟩ := hst
 have hPB : ∃ P : World → Prop, (∀ w', Below (w.alloc (.cells #[.int .i64 d0, .int .i64 d1, .int .i64 d2, .int .i64 d3, .int .i64 c0, .int .i64 c1, .int .i64 c2, .int .i64 c3, .int .i64 st, .slice NA nn nc, .slice XA xn xc, .int .i64 out] 27)).heap.size (w.alloc (.cells #[.int .i64 d0, .int .i64 d1, .int .i64 d2, .int .i64 d3, .int .i64 c0, .int .i64 c1, .int .i64 c2, .int .i64 c3, .int .i64 st, .slice NA nn nc, .slice XA xn xc, .int .i64 out] 27)) w' → P w') ∧ NetP w P d0 d1 d2 d3 c0 c1 c2 c3 st NA ns nn nc XA nx xn xc out := ⟨_, fun w' h => below_net h, netP_mk hN hX⟩
 obtain ⟨P, PF0, PN0⟩ := hPB
 have PF := Lib.hid PF0
 have PN := Lib.hid PN0
 clear PF0 PN0 hnn hxn h3 hN hX
 rcases hD : okW d0 d1 d2 d3 with _ | _
 ·have HD := Lib.hid hD
  have HF := Lib.hid (netB_head (out := out) (ns := ns) (nx := nx) (show netHeadB d0 d1 d2 d3 c0 c1 c2 c3 st ns.length nx.length = false by unfold netHeadB; rw [HD.out]; rfl))
  go_enter Tryd.func34, Tryd.ntmps34
  go_wp2_with (first | (go_at_call 67; with_reducible refine (fx_Valid_is (b := d0) (f := d1) (r := d2) (o := d3) HD.out _).mono ?_; rintro e w1 ⟨rfl, hb1⟩; have hp := PF.out _ hb1; obtain ⟨z1, z2, z3, z4, z5, z6, z7, z8⟩ := PN.out.cells _ hp))
  go_ret
  exact ⟨ret_bool HF.out.symm, PN.out.old _ hp⟩
 ·have HD := Lib.hid hD
  clear hD
  rcases hC : okW c0 c1 c2 c3 with _ | _
  ·have HC := Lib.hid hC
   clear hC
   have HF := Lib.hid (netB_head (out := out) (ns := ns) (nx := nx) (show netHeadB d0 d1 d2 d3 c0 c1 c2 c3 st ns.length nx.length = false by unfold netHeadB; rw [HD.out, HC.out]; rfl))
   go_enter Tryd.func34, Tryd.ntmps34
   go_wp2_with (first | (go_at_call 67; with_reducible refine (fx_Valid_is (b := d0) (f := d1) (r := d2) (o := d3) HD.out _).mono ?_; rintro e w1 ⟨rfl, hb1⟩; have hp := PF.out _ hb1; obtain ⟨z1, z2, z3, z4, z5, z6, z7, z8⟩ := PN.out.cells _ hp) | (go_at_call 67; with_reducible refine (fx_Valid_is (b := c0) (f := c1) (r := c2) (o := c3) HC.out _).mono ?_; rintro e w2 ⟨rfl, hb2⟩; have hp := PN.out.go _ _ hp hb2; obtain ⟨z1, z2, z3, z4, z5, z6, z7, z8⟩ := PN.out.cells _ hp))
   go_ret
   exact ⟨ret_bool HF.out.symm, PN.out.old _ hp⟩
  ·have HC := Lib.hid hC
   clear hC
   by_cases hall : (0 ≤ st ∧ st ≤ 64) ∧ nn ≤ 64 ∧ (xn : Int) = st
   ·obtain ⟨⟨s1, s2⟩, hn64, hxs⟩ := hall
    subst hxs
    obtain ⟨o1, o2, o3, o4, -⟩ := okW_iff.1 HC.out
    have o5 : c1.toNat ≤ 61 := by omega
    obtain ⟨Q, hQ⟩ : ∃ Q, (2 : Int) ^ c1.toNat = Q := ⟨_, rfl⟩
    have q0 : 0 < Q := by rw [← hQ]; exact pow_pos' _
    have e1 : IntKind.i64.wrap ((2 : Int) ^ c1.toNat) = Q := by rw [← hQ]; exact IntWalk.i64_in _ (by have := pow_pos' c1.toNat; have := pow_62 (n := c1.toNat) (by omega); omega)
    have HE1 := Lib.hid e1
    have HQ := Lib.hid hQ
    have HNH : Hid (netHeadB d0 d1 d2 d3 c0 c1 c2 c3 (xn : Int) ns.length nx.length = true) := Lib.hid (by unfold netHeadB; rw [HD.out, HC.out, inB_iff.2 ⟨s1, s2⟩, HNN.out, HXN.out, decide_eq_true hn64]; simp)
    clear hQ e1 s3 s4
    have H2 := Lib.hid h2
    clear h2
    go_enter Tryd.func34, Tryd.ntmps34
    go_wp2_with (first | (go_at_call 67; with_reducible refine (fx_Valid_is (b := d0) (f := d1) (r := d2) (o := d3) HD.out _).mono ?_; rintro e w1 ⟨rfl, hb1⟩; have hp := PF.out _ hb1; obtain ⟨z1, z2, z3, z4, z5, z6, z7, z8⟩ := PN.out.cells _ hp) | (go_at_call 67; with_reducible refine (fx_Valid_is (b := c0) (f := c1) (r := c2) (o := c3) HC.out _).mono ?_; rintro e w2 ⟨rfl, hb2⟩; have hp := PN.out.go _ _ hp hb2; obtain ⟨z1, z2, z3, z4, z5, z6, z7, z8⟩ := PN.out.cells _ hp))
    clear h1 z1 z2 z3 z4 z5 z6 z7 z8
    have HP := Lib.hid hp
    clear hp hb1 hb2
    go_loopw [45] (fun i wr => ∃ k : Nat, k ≤ nn ∧ i = .int .i64 k ∧ Hid (nodesB c0 c1 c2 c3 (xn : Int) ns k = true) ∧ P wr) (fun i _ => nn - (intOf i).toNat)
    case atStart => exact ⟨0, Nat.zero_le _, rfl, rfl, HP.out⟩
    case round =>
     obtain ⟨k, hk, rfl, HNB, hp⟩ := hrel
     obtain ⟨z1, z2, z3, z4, z5, z6, z7, z8⟩ := PN.out.cells _ hp
     have hlw := PN.out.lt _ hp
     by_cases hlt : k < nn
     ·obtain ⟨ts, hts⟩ : ∃ ts, ns[k]? = some ts := ⟨_, List.getElem?_eq_getElem (by rw [HNN.out]; exact hlt)⟩
      obtain ⟨ad, B, bc, rfl, hba, cn, hT⟩ := PN.out.nodes _ hp k ts hts
      have H3t := H3.out ts (List.mem_of_getElem? hts)
      have HSU := Lib.hid (nodesB_succ (c0 := c0) (c1 := c1) (c2 := c2) (c3 := c3) (st := (xn : Int)) hts)
      have HNO := Lib.hid (fun h => nodesB_no (c0 := c0) (c1 := c1) (c2 := c2) (c3 := c3) (st := (xn : Int)) hts h)
      have HPP := Lib.hid (fun o => PN.out.al _ o hp)
      have HTA := Lib.hid (fun o => hT.grow (Below.alloc (Below.refl wr.heap.size wr) (Nat.le_refl _) o))
      have y1 : (0 : Int) ≤ (k : Int) := by omega
      have y2 : (k : Int) < (nn : Int) := by omega
      clear hp hT hts
      by_cases ht64 : ts.length ≤ 64
      ·have x1 : decide ((64 : Int) < (ts.length : Int)) = false := by simp; omega
       go_wp2_with fail
       clear z1 z2 z3 z4 z5 z6 z7 z8 x1 cn
       obtain ⟨wo, rfl⟩ : ∃ wo : World, wo = wr := ⟨_, rfl⟩
       go_loopw [57] (fun i wr => ∃ j : Nat, j ≤ ts.length ∧ i = .int .i64 j ∧ Hid ((ts.take j).all (termB c0 c1 c2 c3 ((xn : Int) + k)) = true) ∧ P wr ∧ TermsAt wr B ts) (fun i _ => ts.length - (intOf i).toNat)
       case atStart => exact ⟨0, Nat.zero_le _, rfl, rfl, HPP.out _, HTA.out _⟩
       case round =>
        obtain ⟨j, hj, rfl, HTB, hp, hT⟩ := hrel
        obtain ⟨z1, z2, z3, z4, z5, z6, z7, z8⟩ := PN.out.cells _ hp
        have hlw := PN.out.lt _ hp
        by_cases hltj : j < ts.length
        ·obtain ⟨tm, htm⟩ : ∃ tm, ts[j]? = some tm := ⟨_, List.getElem?_eq_getElem hltj⟩
         obtain ⟨a2, rfl, hb2, ct0, ct1, i1, i2⟩ := hT j tm htm
         have HS2 := Lib.hid (take_succ_all htm (termB c0 c1 c2 c3 ((xn : Int) + k)))
         have HN2 := Lib.hid (fun h => all_no (p := termB c0 c1 c2 c3 ((xn : Int) + k)) htm h)
         obtain ⟨f, v⟩ := tm
         have HTQ := Lib.hid (termB_eq (c0 := c0) (c2 := c2) (c3 := c3) (last := (xn : Int) + k) (f := f) (v := v) HQ.out)
         have x2 : (0 : Int) ≤ (j : Int) := by omega
         have x3 : (j : Int) < (ts.length : Int) := by omega
         have HP2 := Lib.hid (fun o => PN.out.al _ o hp)
         have HT2 := Lib.hid (fun o => hT.grow (Below.alloc (Below.refl wr.heap.size wr) (Nat.le_refl _) o))
         simp only at ct0 ct1 i1 i2
         have I1 := Lib.hid i1
         have I2 := Lib.hid i2
         clear htm hT hp i1 i2
         rcases hin : inB f 0 ((xn : Int) + k) with _ | _
         ·have HIN := Lib.hid hin
          have hno : f < 0 ∨ (xn : Int) + k < f := by have := inB_no.1 hin; omega
          clear hin
          go_wp2_with fail
          all_goals try (exfalso; simp at *; omega)
          all_goals go_ret
          all_goals exact ⟨ret_bool (netB_nodes (HNO.out (nodeB_terms (HN2.out (by rw [HTQ.out, HIN.out]; rfl))))).symm, PN.out.old _ (HP2.out _)⟩
         ·obtain ⟨f1, f2⟩ := inB_iff.1 hin
          have HIN := Lib.hid hin
          clear hin
          have e1 := HE1.out
          have g3 : decide (f < 0) = false := decide_eq_false (by omega)
          have g4 : decide ((xn : Int) + (k : Int) < f) = false := decide_eq_false (by omega)
          rcases hvq : v != Q with _ | _
          ·have HVQ : Hid ((v == Q) = true) := Lib.hid (by simpa using hvq)
           go_wp2_with fail
           have hx := @Ext.cell
           refine wp_region_ext (by kernel_rfl) (by kernel_rfl) ?_
           repeat (go_big_quiet_step (first
            | (go_at_call 40; exact ext_below (fx_Fits _ _ _ _ _ _))))
           refine wpQuiet_nil ?_
           rintro _ ⟨⟨w5, hb5⟩, rfl⟩
           have hp5 := PN.out.go _ _ (HP2.out _) hb5
           have hT5 := (HT2.out (.cells #[.int .i64 f, .int .i64 v] 80)).grow hb5
           clear hx
           go_wp2
           go_roundw
           case rel => exact ⟨j + 1, by omega, by go_num, by show _ = _; rw [HS2.out, HTB.out, HTQ.out, HIN.out, HVQ.out, Bool.or_true]; rfl, hp5, hT5⟩
           case measure => simp [intOf]; omega
          ·have HVQ : Hid ((v == Q) = false) := Lib.hid (by simpa using hvq)
           rcases hfi : fitsW c0 c1 c2 c3 v with _ | _
           ·have HFI := Lib.hid hfi
            have FB : Hid (∀ w, Calls Tryd.prog 40 #[wordV c0 c1 c2 c3, .int .i64 v] w fun e w' => e = .returned (.bool false) ∧ Below w.heap.size w w') := Lib.hid (fun w => by have := fx_Fits c0 c1 c2 c3 v w; rw [hfi] at this; exact this)
            clear hfi
            go_wp2_with fail
            have hx := @Ext.cell
            refine wp_region_ext (by kernel_rfl) (by kernel_rfl) ?_
            repeat (go_big_quiet_step (first
             | (go_at_call 40; exact ext_below (FB.out _))))
            refine wpQuiet_nil ?_
            rintro _ ⟨⟨w5, hb5⟩, rfl⟩
            have hp5 := PN.out.go _ _ (HP2.out _) hb5
            have hT5 := (HT2.out (.cells #[.int .i64 f, .int .i64 v] 80)).grow hb5
            clear hx
            go_wp2
            go_ret
            exact ⟨ret_bool (netB_nodes (HNO.out (nodeB_terms (HN2.out (by rw [HTQ.out, HIN.out, HFI.out, HVQ.out]; rfl))))).symm, PN.out.old _ hp5⟩
           ·have HFI := Lib.hid hfi
            have FB : Hid (∀ w, Calls Tryd.prog 40 #[wordV c0 c1 c2 c3, .int .i64 v] w fun e w' => e = .returned (.bool true) ∧ Below w.heap.size w w') := Lib.hid (fun w => by have := fx_Fits c0 c1 c2 c3 v w; rw [hfi] at this; exact this)
            clear hfi
            go_wp2_with fail
            have hx := @Ext.cell
            refine wp_region_ext (by kernel_rfl) (by kernel_rfl) ?_
            repeat (go_big_quiet_step (first
             | (go_at_call 40; exact ext_below (FB.out _))))
            refine wpQuiet_nil ?_
            rintro _ ⟨⟨w5, hb5⟩, rfl⟩
            have hp5 := PN.out.go _ _ (HP2.out _) hb5
            have hT5 := (HT2.out (.cells #[.int .i64 f, .int .i64 v] 80)).grow hb5
            clear hx
            go_wp2
            go_roundw
            case rel => exact ⟨j + 1, by omega, by go_num, by show _ = _; rw [HS2.out, HTB.out, HTQ.out, HIN.out, HFI.out]; rfl, hp5, hT5⟩
            case measure => simp [intOf]; omega
        ·obtain rfl : j = ts.length := by omega
         have HP2 := Lib.hid hp
         clear hT hp
         go_wp2
         go_roundw
         case rel => exact ⟨k + 1, by omega, by go_num, by show _ = _; rw [HSU.out, HNB.out]; unfold nodeB; rw [decide_eq_true ht64]; have := HTB.out; rw [List.take_length] at this; rw [this]; rfl, HP2.out⟩
         case measure => simp [intOf]; omega
      ·have x1 : decide ((64 : Int) < (ts.length : Int)) = true := by simp; omega
       have HL := Lib.hid ht64
       clear ht64
       go_wp2
       go_ret
       exact ⟨ret_bool (netB_nodes (HNO.out (nodeB_long HL.out))).symm, PN.out.old _ (HPP.out _)⟩
     ·obtain rfl : k = nn := by omega
      have HPP := Lib.hid hp
      clear hp
      go_wp2_with fail
      clear z1 z2 z3 z4 z5 z6 z7 z8
      obtain ⟨wo, rfl⟩ : ∃ wo : World, wo = wr := ⟨_, rfl⟩
      go_loopw [99] (fun i wr => ∃ j : Nat, j ≤ xn ∧ i = .int .i64 j ∧ Hid (((nx.take j).all fun v => inB v 0 ((xn : Int) + k)) = true) ∧ P wr) (fun i _ => xn - (intOf i).toNat)
      case atStart => exact ⟨0, Nat.zero_le _, rfl, rfl, HPP.out⟩
      case round =>
       obtain ⟨j, hj, rfl, HTB, hp⟩ := hrel
       obtain ⟨z1, z2, z3, z4, z5, z6, z7, z8⟩ := PN.out.cells _ hp
       have hlw := PN.out.lt _ hp
       by_cases hltj : j < xn
       ·obtain ⟨ad, v, rfl, hba, hv, cv, v1, v2⟩ := (PN.out.next _ hp).at_ (k := j) (by rw [HXN.out]; exact hltj)
        have HS2 := Lib.hid (take_succ_all hv (fun v => inB v 0 ((xn : Int) + k)))
        have HN2 := Lib.hid (fun h => all_no (p := fun v => inB v 0 ((xn : Int) + k)) hv h)
        have HP2 := Lib.hid hp
        have x2 : (0 : Int) ≤ (j : Int) := by omega
        have x3 : (j : Int) < (xn : Int) := by omega
        clear hp hv
        rcases hin : inB v 0 ((xn : Int) + k) with _ | _
        ·have HIN := Lib.hid hin
         have hno : v < 0 ∨ (xn : Int) + k < v := by have := inB_no.1 hin; omega
         clear hin
         go_wp2_with fail
         all_goals try (exfalso; simp at *; omega)
         all_goals go_ret
         all_goals exact ⟨ret_bool (netB_next (by rw [HNN.out]; exact HN2.out HIN.out)).symm, PN.out.old _ HP2.out⟩
        ·have HIN := Lib.hid hin
         obtain ⟨g1, g2⟩ := inB_iff.1 hin
         have g3 : decide (v < 0) = false := decide_eq_false (by omega)
         have g4 : decide ((xn : Int) + (k : Int) < v) = false := decide_eq_false (by omega)
         clear hin
         go_wp2_with fail
         go_roundw
         case rel => exact ⟨j + 1, by omega, by go_num, by show _ = _; rw [HS2.out, HTB.out, HIN.out]; rfl, HP2.out⟩
         case measure => simp [intOf]; omega
       ·obtain rfl : j = xn := by omega
        have HP2 := Lib.hid hp
        have HNE := Lib.hid (netB_end (out := out) HNH.out (by rw [HNN.out]; exact HNB.out) (by rw [HNN.out]; have := HTB.out; rw [← HXN.out, List.take_length] at this; rw [← HXN.out]; exact this))
        clear hp
        go_wp2_with fail
        all_goals go_ret
        all_goals exact ⟨ret_bool (by rw [HNE.out, HNN.out, Bool.eq_iff_iff, inB_iff]; simp; omega), PN.out.old _ HP2.out⟩
   ·have HF := Lib.hid (netB_head (out := out) (ns := ns) (nx := nx) (show netHeadB d0 d1 d2 d3 c0 c1 c2 c3 st ns.length nx.length = false by
     unfold netHeadB
     rw [HD.out, HC.out, HNN.out, HXN.out, Bool.true_and, Bool.true_and, Bool.eq_false_iff]
     intro h
     simp only [Bool.and_eq_true, decide_eq_true_eq, beq_iff_eq, inB_iff] at h
     exact hall h))
    have hall2 : st < 0 ∨ 64 < st ∨ 64 < nn ∨ (xn : Int) ≠ st := by omega
    clear hall
    go_enter Tryd.func34, Tryd.ntmps34
    go_wp2_with (first | (go_at_call 67; with_reducible refine (fx_Valid_is (b := d0) (f := d1) (r := d2) (o := d3) HD.out _).mono ?_; rintro e w1 ⟨rfl, hb1⟩; have hp := PF.out _ hb1; obtain ⟨z1, z2, z3, z4, z5, z6, z7, z8⟩ := PN.out.cells _ hp) | (go_at_call 67; with_reducible refine (fx_Valid_is (b := c0) (f := c1) (r := c2) (o := c3) HC.out _).mono ?_; rintro e w2 ⟨rfl, hb2⟩; have hp := PN.out.go _ _ hp hb2; obtain ⟨z1, z2, z3, z4, z5, z6, z7, z8⟩ := PN.out.cells _ hp))
    all_goals try (exfalso; simp at *; omega)
    all_goals go_ret
    all_goals exact ⟨ret_bool HF.out.symm, PN.out.old _ hp⟩
end Go.Proofs.YtdiflpbioohddaaDoor
end
section
namespace Go.Proofs.YtdiflpbioohddaaDoor
open Go.RowKit
theorem Ints.takeL {w : World} {B : Option Addr} {l : List Int} (h : Ints w B l) (k : Nat) : Ints w B (l.take k) := by
 refine ⟨fun j v hj => h.1 j v ?_, fun x hx => h.2 x (List.mem_of_mem_take hx)⟩
 rw [List.map_take, List.getElem?_take] at hj
 split at hj
 ·exact hj
 ·cases hj
theorem Ints.dropL {w : World} {B : Option Addr} {l : List Int} {c k : Nat} (h : Ints w B l) (hc : l.length ≤ c) : Ints w (if c = k then B else B.map (fun x => x.add k)) (l.drop k) := by
 refine ⟨fun j v hj => ?_, fun x hx => h.2 x (List.mem_of_mem_drop hx)⟩
 rw [List.map_drop, List.getElem?_drop] at hj
 obtain ⟨ad, e, h1, h2⟩ := h.1 (k + j) v hj
 have hlt : k + j < l.length := by have := (List.getElem?_eq_some_iff.1 hj).1; simpa using this
 rw [if_neg (by omega), e]
 exact ⟨ad.add k, rfl, by rw [block_add]; exact h1, by rw [add_add]; exact h2⟩
theorem rf_SameN (A B : Option Addr) (l m : List Int) (c d p q : Nat) (w : World) (hp : l.length = p) (hq : m.length = q) (hm : q ≤ 1000000) (he : l = m) (h : Ints w A l) (g : Ints w B m) :
  Calls Tryd.prog 26 #[.slice A p c, .slice B q d] w fun e w' => e = .returned (.bool true) ∧ Below w.heap.size w w' := by
 subst hp; subst hq
 exact rf_SameB A B l m c d w (by omega) he h g
end Go.Proofs.YtdiflpbioohddaaDoor
end
section
namespace Go.Proofs.YtdiflpbioohddaaDoor
open Go.RowKit
theorem emp1 {w : World} : Own w.heap.size (w.alloc (.cells #[] 3)) (.slice (some ⟨w.heap.size, 0, none⟩) 0 0) [] := Own.empty rfl
theorem lit_one {w : World} {x : Int} {t : TypeId} (hx : I64 x) : Ints (w.alloc (.cells #[.int .i64 x] t)) (some ⟨w.heap.size, 0, none⟩) [x] := by
 refine litB rfl (List.all_eq_true.2 fun u hu => ?_)
 simp at hu
 subst hu
 have u1 := hx.1
 have u2 := hx.2
 simp; omega
end Go.Proofs.YtdiflpbioohddaaDoor
end
