/- Several texts in one: E31 E26 Yx E29 O2 On U5 E24 Od Oi E30. -/
import Derived.Test.YtdiflpbioohddaaDoorrS1toE21
import Derived.OwnWalk
import Derived.Test.YtdiflpbioohddaaDoorrE6toE23
import Derived.DeepKeys4
import Derived.WideKeyEntry
import Derived.Test.YtdiflpbioohddaaDoorrG9toVc
import Derived.Carry
import Derived.Test.YtdiflpbioohddaaDoorrE1toI0
import Derived.Test.YtdiflpbioohddaaDoorrJ8
import Derived.OrdersHeld
import Derived.Test.YtdiflpbioohddaaDoorrQtoG3
import Derived.Deep.Slices
import Derived.Lib.SmallJoins
import Derived.Test.YtdiflpbioohddaaDoorrUtoU3
import Derived.Test.YtdiflpbioohddaaDoorrJ2
import Derived.Deep.DeepCutAuto
import Derived.Deep.CutBlock
import Derived.Test.YtdiflpbioohddaaDoorrT3toE5
set_option linter.unusedVariables false
set_option linter.unusedSimpArgs false
section
namespace Go.Proofs.YtdiflpbioohddaaDoor
open Go.RowKit
theorem sm_delay (op : Int) (w : World) : Calls Tryd.prog 86 #[.int .i64 op] w fun e w' => e = .returned (.int .i64 (delayF op)) ∧ w = w' := by
  by_cases h6 : op = 6
  · subst h6
    go_enter Tryd.func86, Tryd.ntmps86
    go_wp2_with fail
    go_ret
    exact ⟨rfl, rfl⟩
  · have e6 : (op == 6) = false := by simpa using h6
    by_cases h5 : op = 5
    · subst h5
      go_enter Tryd.func86, Tryd.ntmps86
      go_wp2_with fail
      go_ret
      exact ⟨rfl, rfl⟩
    · have e5 : (op == 5) = false := by simpa using h5
      have e : delayF op = 0 := by unfold delayF; rw [if_neg h6, if_neg h5]
      rw [e]
      go_enter Tryd.func86, Tryd.ntmps86
      go_wp2_with fail
      go_ret
      exact ⟨rfl, rfl⟩
set_option maxRecDepth 100000 in
set_option maxHeartbeats 8000000 in
theorem sm_Time (A : Option Addr) (n c : Nat) (l : List Ins) (w : World) (hf : FormsAt w) (h : InsAt w A l) (hn : l.length = n) (h9 : n ≤ 9223372036854775807) : Calls Tryd.prog 56 #[.slice A n c] w (RetTime w l) := by
  have CE := Lib.hid (pr_Encode A n c l w hf h hn h9)
  have HF := Lib.hid hf
  have HI := Lib.hid h
  have HN := Lib.hid hn
  obtain ⟨E, hE⟩ : ∃ E, encE l = E := ⟨_, rfl⟩
  rw [hE] at CE
  by_cases hfl : fineF l = true
  · obtain ⟨e0, ez⟩ := (fine_encE l).1 hfl
    have hE0 : E = 0 := hE.symm.trans e0
    subst hE0
    have hl := fineF_len hfl
    rw [hn] at hl
    have e1 : cycF l = (tmF l).1 := by unfold cycF; rw [if_pos hfl]
    have e2 : stlF l = (tmF l).1 - n := by unfold stlF; rw [if_pos hfl, hn]
    have e3 : depE l = 0 := by unfold depE; rw [if_pos hfl]
    have HE : Hid (cycF l = (tmF l).1 ∧ stlF l = (tmF l).1 - n ∧ depE l = 0) := ⟨e1, e2, e3⟩
    have hn512 : n ≤ 512 := hl.2
    rw [hn] at ez
    have q0 : ¬ (n : Int) = 0 := by omega
    have q00 : ((n : Int) == 0) = false := by simpa using q0
    clear e1 e2 e3 h hn h9 hfl hl hE e0 ez hf
    go_enter Tryd.func56, Tryd.ntmps56
    go_upto_region 4 with (go_at_call 84; (with_reducible refine CE.out.mono ?_); rintro e1 w1 ⟨⟨v, rfl, -⟩, hb1⟩)
    go_upto_region 5 with fail
    have bx := Box.new (w := w1) (vs := #[.int .i64 0, .int .i64 0, .int .i64 0, .int .i64 0, .int .i64 0, .int .i64 0, .int .i64 0, .int .i64 0]) (t := 142) (g := w1.heap.size) rfl
    have HBX0 : Hid (BoxI _ w1.heap.size (List.replicate 8 0)) := bx
    have HBW0 := Lib.hid (hb1.alloc hb1.size (.cells #[.int .i64 0, .int .i64 0, .int .i64 0, .int .i64 0, .int .i64 0, .int .i64 0, .int .i64 0, .int .i64 0] 142))
    have HGB : Hid (w.heap.size ≤ w1.heap.size) := hb1.size
    clear bx hb1 CE q0 q00
    generalize w1.alloc (.cells #[.int .i64 0, .int .i64 0, .int .i64 0, .int .i64 0, .int .i64 0, .int .i64 0, .int .i64 0, .int .i64 0] 142) = w2 at HBX0 HBW0 ⊢
    generalize w1.heap.size = g at HBX0 HGB ⊢
    go_wp2_with fail
    go_loopw [8, 31] (fun nx x wr => ∃ (k : Nat) (P : Int) (R : List Int), k ≤ n ∧ x = .int .i64 k ∧ nx = .int .i64 P ∧ Hid (tmF (l.take k) = (P + 1, R)) ∧ Hid (BoxI wr g R) ∧ Hid (Below w.heap.size w wr)) (fun _ x _ => n - (intOf x).toNat)
    case atStart => exact ⟨0, -1, _, Nat.zero_le _, rfl, rfl, Lib.hid rfl, HBX0, HBW0⟩
    case round =>
      obtain ⟨k, P, R, hk, rfl, rfl, HT, HBX, HBW⟩ := hrel
      obtain ⟨hNb, hRb⟩ := tmF_in l k
      rw [HT.out] at hNb hRb
      have hNb : 0 ≤ P + 1 ∧ P + 1 ≤ 4 * 512 := by
        simp only at hNb
        omega
      have wP : IntKind.i64.wrap (P + 1) = P + 1 := IntWalk.i64_in _ (by omega)
      by_cases hlt : k < n
      · obtain ⟨i, hi⟩ : ∃ i, l[k]? = some i := ⟨_, List.getElem?_eq_getElem (by rw [HN.out]; exact hlt)⟩
        have HX := Lib.hid hi
        obtain ⟨ad, rfl, hs, hb, hr, oki⟩ := (HI.out.grow HBW.out) k i hi
        have HS := Lib.hid hs
        have HR := Lib.hid hr
        have CU : Hid (∀ w1, Below wr.heap.size wr w1 → Calls Tryd.prog 85 #[i.v] w1 (RetII w1 i.rd i.wt)) := fun w1 hb => pr_Uses i w1 ((HF.out.grow HBW.out).grow hb) oki
        have HRB0 : Hid (InB R 8 (4 * 512)) := hRb.le (by omega)
        have HRB : Hid (InB R 8 (4 * 512 + 8)) := hRb.le (by omega)
        have hM := rdF_in HRB0.out (by omega) i.rd (P + 1) hNb
        have hD := delayF_in i.op
        have HTM0 : Hid (tmF (l.take (k + 1)) = (rdF R (P + 1) i.rd + 1, wrF R (rdF R (P + 1) i.rd + 1 + delayF i.op) i.wt)) := by
          show _ = _
          rw [take_snoc' hi, tmF_snoc, HT.out]; rfl
        have CDl : Hid (∀ w, Calls Tryd.prog 86 #[.int .i64 i.op] w fun e w' => e = .returned (.int .i64 (delayF i.op)) ∧ w = w') := fun w => sm_delay i.op w
        obtain ⟨dl, hdl⟩ : ∃ dl, delayF i.op = dl := ⟨_, rfl⟩
        rw [hdl] at hD HTM0 CDl
        obtain ⟨op, hop⟩ : ∃ op, i.op = op := ⟨_, rfl⟩
        rw [hop] at CDl
        have HOP := Lib.hid hop
        clear hdl hop
        have q1 : (0 : Int) ≤ (k : Int) := by omega
        have q2 : (k : Int) < (n : Int) := by omega
        have wk : IntKind.i64.wrap ((k : Int) + 1) = ((k + 1 : Nat) : Int) := (IntWalk.i64_in _ (by omega)).trans (by omega)
        clear hs hr hb oki hi hRb HT
        go_upto_region 9 with (first
          | ((with_reducible show wpList _ _ _ (Oper.mk _ (.load _ _) _ _ _ _ :: _) _ _); refine ld_insA HS.out HR.out rfl _ rfl rfl ?_)
          | ((with_reducible show wpList _ _ _ (Oper.mk _ (.store _ _ _) _ _ _ _ :: _) _ _); refine st_ins (w := wr.alloc (.cells Ins.zero.cells.toArray 109)) (g := wr.heap.size) (i := Ins.zero) (j := i) (Box.new rfl) rfl _ _ rfl rfl rfl ?_; intro W2 b2 p2))
        have hb2 := put_facts ((Below.refl wr.heap.size wr).alloc (Nat.le_refl _) (.cells Ins.zero.cells.toArray 109)) (Nat.le_refl _) p2
        have HG8 : Hid (g < wr.heap.size) := HBX.out.1
        have HBX2 : Hid (BoxI W2 g R) := Box.keep HBX.out hb2
        have HBW2 := Lib.hid (below_then HBW.out hb2)
        have HGW : Hid (wr.heap.size ≤ W2.heap.size) := hb2.size
        have CU2 := Lib.hid (CU.out _ hb2)
        generalize wr.heap.size = g8 at b2 HG8 HGW ⊢
        clear hb2 p2 CU HBX HBW HR
        go_upto_region 10 with (first
          | ((with_reducible show wpList _ _ _ (Oper.mk _ (.load _ _) _ _ _ _ :: _) _ _); refine ld_ins b2 rfl _ rfl rfl ?_)
          | (go_at_call 85; (with_reducible refine CU2.out.mono ?_); rintro e1 w3 ⟨RA, WA, rc, wc, rfl, hra, hwa, hb3⟩))
        obtain ⟨rn, hrn⟩ : ∃ rn, i.rd.length = rn := ⟨_, rfl⟩
        obtain ⟨wn, hwn⟩ : ∃ wn, i.wt.length = wn := ⟨_, rfl⟩
        have hrn2 : rn ≤ 2 := hrn ▸ rd_len i
        have hwn2 : wn ≤ 1 := hwn ▸ wt_len i
        have HRN := Lib.hid hrn
        have HWN := Lib.hid hwn
        rw [hrn, hwn]
        have HRA := Lib.hid hra.1
        have HWA3 : Hid (IntsF (g + 1) w3 WA i.wt) := hwa.base (by have := HG8.out; have := HGW.out; omega)
        have HBX3 : Hid (BoxI w3 g R) := Box.keep HBX2.out hb3
        have HB83 : Hid (Box w3 g8 i.cells) := Box.keep b2 hb3
        have HBW3 := Lib.hid (below_then HBW2.out hb3)
        clear hrn hwn hra hwa hb3 CU2 HBX2 HBW2 b2
        go_upto_region 11 with fail
        obtain ⟨wo, hwo⟩ : ∃ wo : World, wo = wr := ⟨_, rfl⟩
        go_wp2_with fail
        go_loopw [8, 44] (fun nx x wr => ∃ (m : Nat) (M : Int), m ≤ rn ∧ x = .int .i64 m ∧ nx = .int .i64 M ∧ Hid (rdF R (P + 1) (i.rd.take m) = M) ∧ w3 = wr) (fun _ x _ => rn - (intOf x).toNat)
        case atStart => exact ⟨0, P + 1, Nat.zero_le _, rfl, rfl, Lib.hid rfl, rfl⟩
        case round =>
          obtain ⟨m, M, hm, rfl, rfl, HM, rfl⟩ := hrel
          by_cases hmt : m < rn
          · obtain ⟨rd, sv, rfl, hrb, hsv, hrc, -, -⟩ := HRA.out.at_ (k := m) (by rw [HRN.out]; exact hmt)
            have hs0 := rd_nat i sv (List.mem_of_getElem? hsv)
            have HST : Hid (rdF R (P + 1) (i.rd.take (m + 1)) = if sv < 8 then max M (R.getD sv.toNat 0) else M) := by
              show _ = _
              rw [take_snoc' hsv, rdF_snoc, HM.out]
            obtain ⟨s, rfl⟩ : ∃ s : Nat, sv = (s : Int) := ⟨sv.toNat, by omega⟩
            have p1 : (0 : Int) ≤ (m : Int) := by omega
            have p2 : (m : Int) < (rn : Int) := by omega
            have wm : IntKind.i64.wrap ((m : Int) + 1) = ((m + 1 : Nat) : Int) := (IntWalk.i64_in _ (by omega)).trans (by omega)
            clear hsv hrb hs0
            by_cases hs8 : s < 8
            · have p3 : (s : Int) < 8 := by omega
              have p4 : (0 : Int) ≤ (s : Int) := by omega
              obtain ⟨c5, c6⟩ := HBX3.out.cell HRB.out hs8
              have HST2 : Hid (rdF R (P + 1) (i.rd.take (m + 1)) = max M (R.getD s 0)) := by
                show _ = _
                rw [HST.out, if_pos p3, Int.toNat_natCast]
              obtain ⟨mx, hmx⟩ : ∃ mx, max M (R.getD s 0) = mx := ⟨_, rfl⟩
              have HX2 := Lib.hid hmx
              rw [hmx] at HST2
              obtain ⟨rv, hrv⟩ : ∃ rv, R.getD s 0 = rv := ⟨_, rfl⟩
              have HRV := Lib.hid hrv
              rw [hrv] at c5
              clear hmx hrv c6
              go_wp2_with fail
              go_roundw
              case rel => exact ⟨m + 1, mx, by omega, rfl, by rw [← HRV.out, HX2.out], HST2, by first | rfl | trivial⟩
              case measure => simp [intOf]; omega
            · have p3 : ¬ (s : Int) < 8 := by omega
              go_wp2_with fail
              go_roundw
              case rel => exact ⟨m + 1, M, by omega, rfl, rfl, Lib.hid (by show _ = _; rw [HST.out, if_neg p3]), by first | rfl | trivial⟩
              case measure => simp [intOf]; omega
          · obtain rfl : m = rn := by omega
            have hlo : ¬ (m : Int) < (m : Int) := by omega
            have hMe : rdF R (P + 1) i.rd = M := by
              have := HM.out
              rw [List.take_of_length_le (Nat.le_of_eq HRN.out)] at this
              exact this
            rw [hMe] at hM HTM0
            obtain ⟨tR, htR⟩ : ∃ tR, wrF R (M + 1 + dl) i.wt = tR := ⟨_, rfl⟩
            have HTR := Lib.hid htR
            rw [htR] at HTM0
            have HTM := HTM0
            have v1 : IntKind.i64.wrap (M + 1) = M + 1 := IntWalk.i64_in _ (by omega)
            have v2 : IntKind.i64.wrap (M + 1 + dl) = M + 1 + dl := IntWalk.i64_in _ (by omega)
            clear htR HTM0 hMe HM
            go_wp2_with fail
            go_loopw [58] (fun x wr => ∃ m : Nat, m ≤ wn ∧ x = .int .i64 m ∧ Hid (BoxI wr g (wrF R (M + 1 + dl) (i.wt.take m))) ∧ Hid (Below w.heap.size w wr) ∧ Hid (IntsF (g + 1) wr WA i.wt) ∧ Hid (Box wr g8 i.cells)) (fun x _ => wn - (intOf x).toNat)
            case atStart => exact ⟨0, Nat.zero_le _, rfl, HBX3, HBW3, HWA3, HB83⟩
            case round =>
              obtain ⟨m, hm, rfl, HBX, HBW, HWA, HB8⟩ := hrel
              by_cases hmt : m < wn
              · obtain ⟨wd, sv, rfl, hwb, hsv, hwc, -, -⟩ := HWA.out.1.at_ (k := m) (by rw [HWN.out]; exact hmt)
                have hs0 := wt_nat i sv (List.mem_of_getElem? hsv)
                have HST : Hid (wrF R (M + 1 + dl) (i.wt.take (m + 1)) = if sv < 8 then (wrF R (M + 1 + dl) (i.wt.take m)).set sv.toNat (M + 1 + dl) else wrF R (M + 1 + dl) (i.wt.take m)) := by
                  show _ = _
                  rw [take_snoc' hsv, wrF_snoc]
                have HIBm := Lib.hid (wrF_in (v := M + 1 + dl) (B := 4 * 512 + 8) (by omega) (i.wt.take m) R HRB.out)
                obtain ⟨R5, hR5⟩ : ∃ R5, wrF R (M + 1 + dl) (i.wt.take m) = R5 := ⟨_, rfl⟩
                rw [hR5] at HBX HST HIBm
                obtain ⟨s, rfl⟩ : ∃ s : Nat, sv = (s : Int) := ⟨sv.toNat, by omega⟩
                have p1 : (0 : Int) ≤ (m : Int) := by omega
                have p2 : (m : Int) < (wn : Int) := by omega
                have wm : IntKind.i64.wrap ((m : Int) + 1) = ((m + 1 : Nat) : Int) := (IntWalk.i64_in _ (by omega)).trans (by omega)
                clear hR5 hsv hwb hs0
                by_cases hs8 : s < 8
                · have p3 : (s : Int) < 8 := by omega
                  have p4 : (0 : Int) ≤ (s : Int) := by omega
                  obtain ⟨c5, c6⟩ := HBX.out.cell HIBm.out hs8
                  have f5 : wr.cell? ⟨g8, 0, none⟩ = some (.int .i64 i.op) := (HB8.out.2.1 0).trans rfl
                  rw [HOP.out] at f5
                  go_upto_region 22 with (go_at_call 86; (with_reducible refine (CDl.out _).mono ?_); rintro e1 w9 ⟨rfl, rfl⟩)
                  have HBX9 := Lib.hid (HBX.out.set HIBm.out (s := s) hs8 (M + 1 + dl))
                  have HBW9 := Lib.hid (below_set (k := s) (u := .int .i64 (M + 1 + dl)) HBW.out HGB.out)
                  have HWA9 := Lib.hid (HWA.out.away (grown_set (grown_refl _ (some g)) (k := s) (u := .int .i64 (M + 1 + dl))) (Nat.lt_succ_self g))
                  have HB89 := Lib.hid (Box.past (b := g) (k := s) (u := .int .i64 (M + 1 + dl)) HB8.out (by have := HG8.out; omega))
                  clear c5 c6 f5
                  go_wp2_with fail
                  go_roundw
                  case rel => exact ⟨m + 1, by omega, rfl, Lib.hid (by show BoxI _ g _; rw [HST.out, if_pos (by omega), Int.toNat_natCast]; exact HBX9.out), HBW9, HWA9, HB89⟩
                  case measure => simp [intOf]; omega
                · have p3 : ¬ (s : Int) < 8 := by omega
                  go_wp2_with fail
                  go_roundw
                  case rel => exact ⟨m + 1, by omega, rfl, Lib.hid (by show BoxI wr g _; rw [HST.out, if_neg (by omega)]; exact HBX.out), HBW, HWA, HB8⟩
                  case measure => simp [intOf]; omega
              · obtain rfl : m = wn := by omega
                have hlo : ¬ (m : Int) < (m : Int) := by omega
                go_wp2_with fail
                go_roundw
                case rel => exact ⟨k + 1, M, tR, by omega, rfl, rfl, HTM, Lib.hid (by
                  show BoxI wr g tR
                  have := HBX.out
                  rw [List.take_of_length_le (Nat.le_of_eq HWN.out), HTR.out] at this
                  exact this), HBW⟩
                case measure => simp [intOf]; omega
      · obtain rfl : k = n := by omega
        have hlo : ¬ (k : Int) < (k : Int) := by omega
        have hT := HT.out
        rw [List.take_of_length_le (Nat.le_of_eq HN.out)] at hT
        have HTT := Lib.hid hT
        have wN : IntKind.i64.wrap (P + 1 - (k : Int)) = P + 1 - (k : Int) := IntWalk.i64_in _ (by omega)
        clear hT hNb hRb
        go_wp2_with fail
        go_ret3
        refine ⟨?_, HBW.out⟩
        rw [HE.out.1, HE.out.2.1, HE.out.2.2, HTT.out]; rfl
  · have hfl : fineF l = false := by simpa using hfl
    have e1 : cycF l = 0 := by unfold cycF; rw [hfl]; rfl
    have e2 : stlF l = 0 := by unfold stlF; rw [hfl]; rfl
    have e3 : depE l = 21 := by unfold depE; rw [hfl]; rfl
    have HE : Hid (cycF l = 0 ∧ stlF l = 0 ∧ depE l = 21) := ⟨e1, e2, e3⟩
    clear e1 e2 e3 h hn h9 hf
    by_cases hE0 : E = 0
    · subst hE0
      have hn0 : n = 0 := by
        have := mt (fine_encE l).2 (by rw [hfl]; decide)
        rw [HN.out] at this
        by_cases h0 : n = 0
        · exact h0
        · exact absurd ⟨hE, h0⟩ this
      subst hn0
      clear hE hfl
      go_enter Tryd.func56, Tryd.ntmps56
      go_wp2_with (go_at_call 84; (with_reducible refine CE.out.mono ?_); rintro e1 w1 ⟨⟨v, rfl, -⟩, hb1⟩)
      go_ret3
      refine ⟨?_, hb1⟩
      rw [HE.out.1, HE.out.2.1, HE.out.2.2]; rfl
    · have hEb : (E == 0) = false := by simpa using hE0
      clear hE hfl
      go_enter Tryd.func56, Tryd.ntmps56
      go_wp2_with (go_at_call 84; (with_reducible refine CE.out.mono ?_); rintro e1 w1 ⟨⟨v, rfl, -⟩, hb1⟩)
      go_ret3
      refine ⟨?_, hb1⟩
      rw [HE.out.1, HE.out.2.1, HE.out.2.2]; rfl
end Go.Proofs.YtdiflpbioohddaaDoor
end
section
namespace Go.Proofs.YtdiflpbioohddaaDoor
open Go.RowKit
end Go.Proofs.YtdiflpbioohddaaDoor
end
section
namespace Go.Proofs.YtdiflpbioohddaaDoor
open Go.RowKit
theorem run_call_fn {P : Program} {f : FuncId} {fn : Func} {ρ : Operand → Value} {o : Oper} {x : Operand} {args : Array Operand} {tys : Array TypeId} (ho : o.op = .call { callee := .value x, args := args, argTypes := tys }) (hx : ρ x = .func (.func f) #[] #[]) (hf : P.funcs[f]? = some fn) (hname : (fn.name == "runtime.NumGoroutine") = false) (hb : fn.body.isSome = true) (w : World) :
    (execOp ρ o).run P w = .ok (.enter f (args.map ρ)) w := by
  have h1 : fn.name ≠ "runtime.NumGoroutine" := by simpa using hname
  obtain ⟨c, hc⟩ := Option.isSome_iff_exists.1 hb
  unfold execOp
  simp only [ho]
  simp [resolve, hx, Deferred.ofValue, invoke, callFunc, hf, h1, hc]
theorem wp_call1 {P : Program} {ops : Array Oper} {rest : List Oper} {Q : Exit → Act → World → Prop} {a : Act} {w : World} {f : FuncId} {fn : Func} {o : Oper} {x : Operand} {args : Array Operand} {tys : Array TypeId} (hf : P.funcs[f]? = some fn) (hname : (fn.name == "runtime.NumGoroutine") = false) (hb : fn.body.isSome = true)
    (hg : o.guard = none) (ho : o.op = .call { callee := .value x, args := args, argTypes := tys }) (hx : a.eval x = .func (.func f) #[] #[]) (vs : Array Value) (hv : args.toList.map a.eval = vs.toList) {R : Ending → World → Prop} (hc : Calls P f vs w R)
    (h : ∀ e w', R e w' → ∃ v, e = .returned v ∧ wpList P ops Q rest (a.put o.dst v) w') : wpList P ops Q (o :: rest) a w := by
  refine wpList_plain hg fun K hK => ?_
  unfold Oper.wp
  have hv2 : args.map a.eval = vs := by
    apply Array.toList_inj.1
    rw [Array.toList_map]; exact hv
  rw [run_call_fn ho hx hf hname hb w, Oper.upon_enter, hv2]
  refine hc.mono fun e w' hr => ?_
  obtain ⟨v, rfl, h1⟩ := h e w' hr
  exact hK _ _ h1
end Go.Proofs.YtdiflpbioohddaaDoor
end
section
namespace Go.Proofs.YtdiflpbioohddaaDoor
open Go.RowKit
theorem flatI_set : ∀ (l : List Ins) (k : Nat) (i : Ins), (l.set k i).flatMap encI = ((((l.flatMap encI).set (k * 4) i.op).set (k * 4 + 1) i.a).set (k * 4 + 2) i.b).set (k * 4 + 3) i.imm
  | [], k, i => by simp
  | a :: l, 0, i => by simp [encI]
  | a :: l, k + 1, i => by
    rw [List.set_cons_succ, List.flatMap_cons, flatI_set l k i, List.flatMap_cons]
    show _ = (((([a.op, a.a, a.b, a.imm] ++ l.flatMap encI).set ((k + 1) * 4) i.op).set ((k + 1) * 4 + 1) i.a).set ((k + 1) * 4 + 2) i.b).set ((k + 1) * 4 + 3) i.imm
    rw [show (k + 1) * 4 = k * 4 + 1 + 1 + 1 + 1 by omega]
    simp [encI]
theorem OwnIR.block {base : Nat} {w : World} {g n c : Nat} {l : List Ins} (h : OwnIR base w (.slice (some ⟨g, 0, none⟩) n c) l) : base ≤ g ∧ g < w.heap.size := h.1.lt g rfl
theorem OwnIR.len {base : Nat} {w : World} {A : Option Addr} {n c : Nat} {l : List Ins} (h : OwnIR base w (.slice A n c) l) : n = l.length := by
  obtain ⟨A', c', e, -⟩ := own_form h.1
  injection e
theorem OwnIR.put {base : Nat} {w : World} {g n c : Nat} {l : List Ins} (h : OwnIR base w (.slice (some ⟨g, 0, none⟩) n c) l) (k : Nat) {i : Ins} (hi : i.ok) :
    OwnIR base (w.setCells g (k * 4) i.cells) (.slice (some ⟨g, 0, none⟩) n c) (l.set k i) := by
  have e2 := h.len
  subst e2
  have a0 := (h.1.stored (k * 4) (.int .i64 i.op)).1
  have a1 := (a0.stored (k * 4 + 1) (.int .i64 i.a)).1
  have a2 := (a1.stored (k * 4 + 2) (.int .i64 i.b)).1
  have a3 := (a2.stored (k * 4 + 3) (.int .i64 i.imm)).1
  refine ⟨by rw [List.length_set, flatI_set, List.map_set, List.map_set, List.map_set, List.map_set]; exact a3, fun q hq => ?_⟩
  rcases List.mem_or_eq_of_mem_set hq with hq | hq
  · exact h.2 q hq
  · subst hq; exact hi
theorem OwnIR.there {base : Nat} {w : World} {g n c : Nat} {l : List Ins} (h : OwnIR base w (.slice (some ⟨g, 0, none⟩) n c) l) {k : Nat} (hk : k < l.length) : w.there g (k * 4) 4 := by
  have e2 := h.len
  subst e2
  intro j hj
  refine ⟨?_, h.1.frozenAt _⟩
  rw [h.1.cellAt (k * 4 + j) (by omega), flatI_get (List.getElem?_eq_getElem hk) hj]
  show ((l[k].cells)[j]?).isSome = true
  match j, hj with
  | 0, _ | 1, _ | 2, _ | 3, _ => rfl
end Go.Proofs.YtdiflpbioohddaaDoor
end
section
set_option maxRecDepth 100000
namespace Go.Proofs.YtdiflpbioohddaaDoor
open Go.Joins Go.ChangeShapes Go.WideShapes Go.RowKit Go.Deep
theorem get_lt {α : Type} {l : List α} {n i : Nat} (h : l.length = n) (hi : i < n) : ∃ x, l[i]? = some x := ⟨_, List.getElem?_eq_getElem (h ▸ hi)⟩
end Go.Proofs.YtdiflpbioohddaaDoor
end
section
set_option maxRecDepth 100000
namespace Go.Proofs.YtdiflpbioohddaaDoor
open Go.Joins Go.ChangeShapes Go.WideShapes Go.RowKit
theorem trod_Ints {H : Type} {enc : TypeId × Value → H} {w : World} {base fuel : Nat} {spare : Nat → Bool} {held : Bool} {v : Value} {y : DataW H × List MemPlace}
    (hf : DataW.trod enc Tryd.prog w base spare held fuel 25 [v] = some y) :
    ∃ u : Option Addr × Nat × List Int, v = .slice u.1 u.2.2.length u.2.1 ∧ (Ints w u.1 u.2.2 ∧ u.2.2.length ≤ 9223372036854775807) := by
  rcases open_ints Tryd.underlying25 Tryd.underlying3 (by kernel_rfl) hf with ⟨hcs, _⟩ | ⟨x, l, c, zs, hcs, _, hl, hm, hz, _, hcell, hwz⟩
  · simp at hcs
    subst hcs
    exact ⟨⟨none, 0, []⟩, rfl, Ints.nil, by simp⟩
  · simp at hcs
    subst hcs
    have hlz : l ≤ zs.length := by rw [hz]; split <;> omega
    have hlen : (zs.take l).length = l := by simp; omega
    refine ⟨⟨some x, c, zs.take l⟩, by rw [hlen], ⟨fun k v hk => ?_, fun y hy => i64_of_wf (hwz y (List.mem_of_mem_take hy))⟩, by rw [hlen]; unfold maxLen at hm; omega⟩
    rw [List.getElem?_map] at hk
    cases hx : (zs.take l)[k]? with
    | none => rw [hx] at hk; cases hk
    | some q =>
      rw [hx] at hk
      simp only [Option.map_some, Option.some.injEq] at hk
      subst hk
      have hkl : k < l := by
        have := (List.getElem?_eq_some_iff.1 hx).1
        omega
      rw [List.getElem?_take_of_lt hkl] at hx
      have hc := hcell k (by omega)
      rw [List.getD_eq_getElem?_getD, hx] at hc
      have hb := cell_lt hc
      rw [block_add] at hb
      exact ⟨x, rfl, hb, hc⟩
end Go.Proofs.YtdiflpbioohddaaDoor
end
section
namespace Go.Proofs.YtdiflpbioohddaaDoor
open Go.RowKit
theorem resC {fn : Func} {t : Tmp} {T : TypeId} (h : fn.results = #[.cell t T]) (tmps : Array Value) (P : Program) (w : World) {g : Nat} {v : Value} (hp : tmps.getD t undef = .pointer (some ⟨g, 0, none⟩)) (hv : (loadVar T ⟨g, 0, none⟩).run P w = .ok v w) : (results fn tmps).run P w = .ok v w := by
  have hp' : tmps[t]?.getD undef = .pointer (some ⟨g, 0, none⟩) := by rw [← Array.getD_eq_getD_getElem?]; exact hp
  simp [results, h, hp', hv, asAddr]
theorem resCT {fn : Func} {t x : Tmp} {T : TypeId} (h : fn.results = #[.cell t T, .tmp x]) (tmps : Array Value) (P : Program) (w : World) {g : Nat} {v : Value} (hp : tmps.getD t undef = .pointer (some ⟨g, 0, none⟩)) (hv : (loadVar T ⟨g, 0, none⟩).run P w = .ok v w) : (results fn tmps).run P w = .ok (.tuple #[v, tmps.getD x undef]) w := by
  have hp' : tmps[t]?.getD undef = .pointer (some ⟨g, 0, none⟩) := by rw [← Array.getD_eq_getD_getElem?]; exact hp
  simp [results, h, hp', hv, asAddr]
theorem resTCTT {fn : Func} {t x y z : Tmp} {T : TypeId} (h : fn.results = #[.tmp x, .cell t T, .tmp y, .tmp z]) (tmps : Array Value) (P : Program) (w : World) {g : Nat} {v : Value} (hp : tmps.getD t undef = .pointer (some ⟨g, 0, none⟩)) (hv : (loadVar T ⟨g, 0, none⟩).run P w = .ok v w) : (results fn tmps).run P w = .ok (.tuple #[tmps.getD x undef, v, tmps.getD y undef, tmps.getD z undef]) w := by
  have hp' : tmps[t]?.getD undef = .pointer (some ⟨g, 0, none⟩) := by rw [← Array.getD_eq_getD_getElem?]; exact hp
  simp [results, h, hp', hv, asAddr]
theorem res_box {w : World} {g : Nat} {cs : List Value} (ty : TypeId) (hb : Box w g cs) (d : TypeDesc) (hu : Tryd.prog.underlying ty = some d) (hd : d.isRow = true) (hi : (Tryd.prog.info? ty).map (·.size) = some cs.length) : (loadVar ty ⟨g, 0, none⟩).run Tryd.prog w = .ok (.agg cs.toArray) w :=
  run_loadVar_mid w g 0 _ cs d (hb.range (fun j v h => by rw [Nat.zero_add]; exact h)) hu hd hi
end Go.Proofs.YtdiflpbioohddaaDoor
end
section
namespace Go.Proofs.YtdiflpbioohddaaDoor
open Go.RowKit
def prgL (d0 d1 d2 d3 c0 c1 c2 c3 : Int) (V X : Value) : List Value := [.int .i64 d0, .int .i64 d1, .int .i64 d2, .int .i64 d3, .int .i64 c0, .int .i64 c1, .int .i64 c2, .int .i64 c3, V, X]
def zeros10 : List Value := prgL 0 0 0 0 0 0 0 0 (.slice none 0 0) (.slice none 0 0)
theorem size_prg : (Tryd.prog.info? 41).map (·.size) = some 10 := by kernel_rfl
theorem row_prg : ∃ d, Tryd.prog.underlying 41 = some d ∧ d.isRow = true := ⟨_, Tryd.underlying41, rfl⟩
end Go.Proofs.YtdiflpbioohddaaDoor
end
section
set_option maxRecDepth 100000
namespace Go.Proofs.YtdiflpbioohddaaDoor
open Go.Joins Go.ChangeShapes Go.WideShapes Go.RowKit Go.Deep
theorem array5 {α : Type} {cs : Array α} (h : cs.size = 5) : ∃ c0 c1 c2 c3 c4, cs = #[c0, c1, c2, c3, c4] := by
  obtain ⟨l⟩ := cs
  match l, h with
  | [c0, c1, c2, c3, c4], _ => exact ⟨c0, c1, c2, c3, c4, rfl⟩
end Go.Proofs.YtdiflpbioohddaaDoor
end
section
set_option maxRecDepth 100000
namespace Go.Proofs.YtdiflpbioohddaaDoor
open Go.Joins Go.ChangeShapes Go.WideShapes Go.RowKit Go.Deep
instance : Inhabited Ins := ⟨Ins.zero⟩
end Go.Proofs.YtdiflpbioohddaaDoor
end
section
namespace Go.Proofs.YtdiflpbioohddaaDoor
open Go.RowKit
theorem OwnIR.some {base : Nat} {w : World} {v : Value} {l : List Ins} (h : OwnIR base w v l) (hl : 1 ≤ l.length) : ∃ g c, v = .slice (some ⟨g, 0, none⟩) l.length c := by
  obtain ⟨A, c, rfl, -⟩ := own_form h.1
  obtain ⟨i, hi⟩ : ∃ i, l[0]? = Option.some i := ⟨_, List.getElem?_eq_getElem (by omega)⟩
  obtain ⟨g, e0, -, -⟩ := own_cells h.1 (k := 0 * 4 + 0) (v := .int .i64 i.op) (by rw [flatI_get hi (by omega)]; rfl)
  subst e0
  exact ⟨g, c, rfl⟩
end Go.Proofs.YtdiflpbioohddaaDoor
end
