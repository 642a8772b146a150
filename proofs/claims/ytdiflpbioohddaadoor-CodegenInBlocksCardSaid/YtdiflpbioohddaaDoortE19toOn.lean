/- Several texts in one: E19 E20 E21 E22 E31 Po E26 Yx E29 O2 On. -/
import Derived.Test.YtdiflpbioohddaaDoortE18
import Derived.Test.YtdiflpbioohddaaDoortJ
import Derived.OwnWalk
import Derived.Test.YtdiflpbioohddaaDoortE17
import Derived.Test.YtdiflpbioohddaaDoortE13toE16
import Derived.DeepKeys4
import Derived.WideKeyEntry
import Derived.Test.YtdiflpbioohddaaDoortG9toVc
import Derived.Carry
import Derived.Test.YtdiflpbioohddaaDoortE1toI0
import Derived.Test.YtdiflpbioohddaaDoortJ8
import Derived.OrdersHeld
import Derived.Test.YtdiflpbioohddaaDoortAtoV1
import Derived.Deep.Slices
import Derived.Lib.SmallJoins
set_option linter.unusedVariables false
set_option linter.unusedSimpArgs false
section
namespace Go.Proofs.YtdiflpbioohddaaDoor
open Go.RowKit
def lenOf : Value → Nat
 | .slice _ n _ => n
 | _ => 0
end Go.Proofs.YtdiflpbioohddaaDoor
end
section
namespace Go.Proofs.YtdiflpbioohddaaDoor
open Go.RowKit
theorem emp_ins {w : World} : OwnIR w.heap.size (w.alloc (.cells #[] 109)) (.slice (some ⟨w.heap.size, 0, none⟩) 0 0) [] :=
 ⟨⟨rfl, .inr ⟨w.heap.size, 0, #[], rfl, Nat.le_refl _, heap_alloc_new w _, Nat.le_refl _, by simp, by simp, by simp⟩⟩, by simp⟩
end Go.Proofs.YtdiflpbioohddaaDoor
end
section
namespace Go.Proofs.YtdiflpbioohddaaDoor
open Go.RowKit
def litI (w : World) (l : List Ins) : World := w.alloc (.cells ((l.flatMap encI).map (Value.int .i64)).toArray 109)
theorem InsAt.lit {w : World} {l : List Ins} (hl : ∀ i ∈ l, i.ok) : InsAt (litI w l) (some ⟨w.heap.size, 0, none⟩) l := fun k i hk => by
 refine ⟨_, rfl, rfl, by unfold litI; simp, fun j v hj => ?_, hl i (List.mem_of_getElem? hk)⟩
 have hj4 : j < 4 := (List.getElem?_eq_some_iff.1 hj).1
 have hb := Box.new (w := w) (vs := ((l.flatMap encI).map (Value.int .i64)).toArray) (t := 109) (g := w.heap.size) rfl
 have h2 := hb.2.1 (k * 4 + j)
 rw [show (⟨w.heap.size, 0, none⟩ : Addr).off + k * 4 + j = k * 4 + j by show 0 + k * 4 + j = _; omega]
 exact h2.trans ((flatI_get hk hj4).trans hj)
end Go.Proofs.YtdiflpbioohddaaDoor
end
section
namespace Go.Proofs.YtdiflpbioohddaaDoor
open Go.RowKit
theorem grF_len (l : List Ins) : (grF l).length = l.length := (gr_inv l (htF l) l.length (Nat.le_refl _)).2.2.1
end Go.Proofs.YtdiflpbioohddaaDoor
end
section
namespace Go.Proofs.YtdiflpbioohddaaDoor
open Go.RowKit
theorem sm_delay (op : Int) (w : World) : Calls Tryd.prog 86 #[.int .i64 op] w fun e w' => e = .returned (.int .i64 (delayF op)) ∧ w = w' := by
 by_cases h6 : op = 6
 ·subst h6
  go_enter Tryd.func86, Tryd.ntmps86
  go_wp2_with fail
  go_ret
  exact ⟨rfl, rfl⟩
 ·have e6 : (op == 6) = false := by simpa using h6
  by_cases h5 : op = 5
  ·subst h5
   go_enter Tryd.func86, Tryd.ntmps86
   go_wp2_with fail
   go_ret
   exact ⟨rfl, rfl⟩
  ·have e5 : (op == 5) = false := by simpa using h5
   have e : delayF op = 0 := by unfold delayF; rw [if_neg h6, if_neg h5]
   rw [e]
   go_enter Tryd.func86, Tryd.ntmps86
   go_wp2_with fail
   go_ret
   exact ⟨rfl, rfl⟩
set_option maxRecDepth 100000 in
set_option maxHeartbeats 8000000 in
theorem sm_Time (A : Option Addr) (n c : Nat) (l : List Ins) (w : World) (hf : FormsAt w) (h : InsAt w A l) (hn : l.length = n) (h9 : n ≤ 9223372036854775807) : Calls Tryd.prog 56 #[.slice A n c] w (RetTime w l) := by
 have CE := Lib.hid (pr_Encode A n c l w hf h hn h9)
 have HF := Lib.hid hf
 have HI := Lib.hid h
 have HN := Lib.hid hn
 obtain ⟨E, hE⟩ : ∃ E, encE l = E := ⟨_, rfl⟩
 rw [hE] at CE
 by_cases hfl : fineF l = true
 ·obtain ⟨e0, ez⟩ := (fine_encE l).1 hfl
  have hE0 : E = 0 := hE.symm.trans e0
  subst hE0
  have hl := fineF_len hfl
  rw [hn] at hl
  have e1 : cycF l = (tmF l).1 := by unfold cycF; rw [if_pos hfl]
  have e2 : stlF l = (tmF l).1 - n := by unfold stlF; rw [if_pos hfl, hn]
  have e3 : depE l = 0 := by unfold depE; rw [if_pos hfl]
  have HE : Hid (cycF l = (tmF l).1 ∧ stlF l = (tmF l).1 - n ∧ depE l = 0) := ⟨e1, e2, e3⟩
  have hn512 : n ≤ 512 := hl.2
  rw [hn] at ez
  have q0 : ¬ (n : Int) = 0 := by omega
  have q00 : ((n : Int) == 0) = false := by simpa using q0
  clear e1 e2 e3 h hn h9 hfl hl hE e0 ez hf
  go_enter Tryd.func56, Tryd.ntmps56
  go_upto_region 4 with (go_at_call 84; (with_reducible refine CE.out.mono ?_); rintro e1 w1 ⟨⟨v, rfl, -⟩, hb1⟩)
  go_upto_region 5 with fail
  have bx := Box.new (w := w1) (vs := #[.int .i64 0, .int .i64 0, .int .i64 0, .int .i64 0, .int .i64 0, .int .i64 0, .int .i64 0, .int .i64 0]) (t := 142) (g := w1.heap.size) rfl
  have HBX0 : Hid (BoxI _ w1.heap.size (List.replicate 8 0)) := bx
  have HBW0 := Lib.hid (hb1.alloc hb1.size (.cells #[.int .i64 0, .int .i64 0, .int .i64 0, .int .i64 0, .int .i64 0, .int .i64 0, .int .i64 0, .int .i64 0] 142))
  have HGB : Hid (w.heap.size ≤ w1.heap.size) := hb1.size
  clear bx hb1 CE q0 q00
  generalize w1.alloc (.cells #[.int .i64 0, .int .i64 0, .int .i64 0, .int .i64 0, .int .i64 0, .int .i64 0, .int .i64 0, .int .i64 0] 142) = w2 at HBX0 HBW0 ⊢
  generalize w1.heap.size = g at HBX0 HGB ⊢
  go_wp2_with fail
  go_loopw [8, 31] (fun nx x wr => ∃ (k : Nat) (P : Int) (R : List Int), k ≤ n ∧ x = .int .i64 k ∧ nx = .int .i64 P ∧ Hid (tmF (l.take k) = (P + 1, R)) ∧ Hid (BoxI wr g R) ∧ Hid (Below w.heap.size w wr)) (fun _ x _ => n - (intOf x).toNat)
  case atStart => exact ⟨0, -1, _, Nat.zero_le _, rfl, rfl, Lib.hid rfl, HBX0, HBW0⟩
  case round =>
   obtain ⟨k, P, R, hk, rfl, rfl, HT, HBX, HBW⟩ := hrel
   obtain ⟨hNb, hRb⟩ := tmF_in l k
   rw [HT.out] at hNb hRb
   have hNb : 0 ≤ P + 1 ∧ P + 1 ≤ 4 * 512 := by
    simp only at hNb
    omega
   have wP : IntKind.i64.wrap (P + 1) = P + 1 := IntWalk.i64_in _ (by omega)
   by_cases hlt : k < n
   ·obtain ⟨i, hi⟩ : ∃ i, l[k]? = some i := ⟨_, List.getElem?_eq_getElem (by rw [HN.out]; exact hlt)⟩
    have HX := Lib.hid hi
    obtain ⟨ad, rfl, hs, hb, hr, oki⟩ := (HI.out.grow HBW.out) k i hi
    have HS := Lib.hid hs
    have HR := Lib.hid hr
    have CU : Hid (∀ w1, Below wr.heap.size wr w1 → Calls Tryd.prog 85 #[i.v] w1 (RetII w1 i.rd i.wt)) := fun w1 hb => pr_Uses i w1 ((HF.out.grow HBW.out).grow hb) oki
    have HRB0 : Hid (InB R 8 (4 * 512)) := hRb.le (by omega)
    have HRB : Hid (InB R 8 (4 * 512 + 8)) := hRb.le (by omega)
    have hM := rdF_in HRB0.out (by omega) i.rd (P + 1) hNb
    have hD := delayF_in i.op
    have HTM0 : Hid (tmF (l.take (k + 1)) = (rdF R (P + 1) i.rd + 1, wrF R (rdF R (P + 1) i.rd + 1 + delayF i.op) i.wt)) := by
     show _ = _
     rw [take_snoc' hi, tmF_snoc, HT.out]; rfl
    have CDl : Hid (∀ w, Calls Tryd.prog 86 #[.int .i64 i.op] w fun e w' => e = .returned (.int .i64 (delayF i.op)) ∧ w = w') := fun w => sm_delay i.op w
    obtain ⟨dl, hdl⟩ : ∃ dl, delayF i.op = dl := ⟨_, rfl⟩
    rw [hdl] at hD HTM0 CDl
    obtain ⟨op, hop⟩ : ∃ op, i.op = op := ⟨_, rfl⟩
    rw [hop] at CDl
    have HOP := Lib.hid hop
    clear hdl hop
    have q1 : (0 : Int) ≤ (k : Int) := by omega
    have q2 : (k : Int) < (n : Int) := by omega
    have wk : IntKind.i64.wrap ((k : Int) + 1) = ((k + 1 : Nat) : Int) := (IntWalk.i64_in _ (by omega)).trans (by omega)
    clear hs hr hb oki hi hRb HT
    go_upto_region 9 with (first
     | ((with_reducible show wpList _ _ _ (Oper.mk _ (.load _ _) _ _ _ _ :: _) _ _); refine ld_insA HS.out HR.out rfl _ rfl rfl ?_)
     | ((with_reducible show wpList _ _ _ (Oper.mk _ (.store _ _ _) _ _ _ _ :: _) _ _); refine st_ins (w := wr.alloc (.cells Ins.zero.cells.toArray 109)) (g := wr.heap.size) (i := Ins.zero) (j := i) (Box.new rfl) rfl _ _ rfl rfl rfl ?_; intro W2 b2 p2))
    have hb2 := put_facts ((Below.refl wr.heap.size wr).alloc (Nat.le_refl _) (.cells Ins.zero.cells.toArray 109)) (Nat.le_refl _) p2
    have HG8 : Hid (g < wr.heap.size) := HBX.out.1
    have HBX2 : Hid (BoxI W2 g R) := Box.keep HBX.out hb2
    have HBW2 := Lib.hid (below_then HBW.out hb2)
    have HGW : Hid (wr.heap.size ≤ W2.heap.size) := hb2.size
    have CU2 := Lib.hid (CU.out _ hb2)
    generalize wr.heap.size = g8 at b2 HG8 HGW ⊢
    clear hb2 p2 CU HBX HBW HR
    go_upto_region 10 with (first
     | ((with_reducible show wpList _ _ _ (Oper.mk _ (.load _ _) _ _ _ _ :: _) _ _); refine ld_ins b2 rfl _ rfl rfl ?_)
     | (go_at_call 85; (with_reducible refine CU2.out.mono ?_); rintro e1 w3 ⟨RA, WA, rc, wc, rfl, hra, hwa, hb3⟩))
    obtain ⟨rn, hrn⟩ : ∃ rn, i.rd.length = rn := ⟨_, rfl⟩
    obtain ⟨wn, hwn⟩ : ∃ wn, i.wt.length = wn := ⟨_, rfl⟩
    have hrn2 : rn ≤ 2 := hrn ▸ rd_len i
    have hwn2 : wn ≤ 1 := hwn ▸ wt_len i
    have HRN := Lib.hid hrn
    have HWN := Lib.hid hwn
    rw [hrn, hwn]
    have HRA := Lib.hid hra.1
    have HWA3 : Hid (IntsF (g + 1) w3 WA i.wt) := hwa.base (by have := HG8.out; have := HGW.out; omega)
    have HBX3 : Hid (BoxI w3 g R) := Box.keep HBX2.out hb3
    have HB83 : Hid (Box w3 g8 i.cells) := Box.keep b2 hb3
    have HBW3 := Lib.hid (below_then HBW2.out hb3)
    clear hrn hwn hra hwa hb3 CU2 HBX2 HBW2 b2
    go_upto_region 11 with fail
    obtain ⟨wo, hwo⟩ : ∃ wo : World, wo = wr := ⟨_, rfl⟩
    go_wp2_with fail
    go_loopw [8, 44] (fun nx x wr => ∃ (m : Nat) (M : Int), m ≤ rn ∧ x = .int .i64 m ∧ nx = .int .i64 M ∧ Hid (rdF R (P + 1) (i.rd.take m) = M) ∧ w3 = wr) (fun _ x _ => rn - (intOf x).toNat)
    case atStart => exact ⟨0, P + 1, Nat.zero_le _, rfl, rfl, Lib.hid rfl, rfl⟩
    case round =>
     obtain ⟨m, M, hm, rfl, rfl, HM, rfl⟩ := hrel
     by_cases hmt : m < rn
     ·obtain ⟨rd, sv, rfl, hrb, hsv, hrc, -, -⟩ := HRA.out.at_ (k := m) (by rw [HRN.out]; exact hmt)
      have hs0 := rd_nat i sv (List.mem_of_getElem? hsv)
      have HST : Hid (rdF R (P + 1) (i.rd.take (m + 1)) = if sv < 8 then max M (R.getD sv.toNat 0) else M) := by
       show _ = _
       rw [take_snoc' hsv, rdF_snoc, HM.out]
      obtain ⟨s, rfl⟩ : ∃ s : Nat, sv = (s : Int) := ⟨sv.toNat, by omega⟩
      have p1 : (0 : Int) ≤ (m : Int) := by omega
      have p2 : (m : Int) < (rn : Int) := by omega
      have wm : IntKind.i64.wrap ((m : Int) + 1) = ((m + 1 : Nat) : Int) := (IntWalk.i64_in _ (by omega)).trans (by omega)
      clear hsv hrb hs0
      by_cases hs8 : s < 8
      ·have p3 : (s : Int) < 8 := by omega
       have p4 : (0 : Int) ≤ (s : Int) := by omega
       obtain ⟨c5, c6⟩ := HBX3.out.cell HRB.out hs8
       have HST2 : Hid (rdF R (P + 1) (i.rd.take (m + 1)) = max M (R.getD s 0)) := by
        show _ = _
        rw [HST.out, if_pos p3, Int.toNat_natCast]
       obtain ⟨mx, hmx⟩ : ∃ mx, max M (R.getD s 0) = mx := ⟨_, rfl⟩
       have HX2 := Lib.hid hmx
       rw [hmx] at HST2
       obtain ⟨rv, hrv⟩ : ∃ rv, R.getD s 0 = rv := ⟨_, rfl⟩
       have HRV := Lib.hid hrv
       rw [hrv] at c5
       clear hmx hrv c6
       go_wp2_with fail
       go_roundw
       case rel => exact ⟨m + 1, mx, by omega, rfl, by rw [← HRV.out, HX2.out], HST2, by first | rfl | trivial⟩
       case measure => simp [intOf]; omega
      ·have p3 : ¬ (s : Int) < 8 := by omega
       go_wp2_with fail
       go_roundw
       case rel => exact ⟨m + 1, M, by omega, rfl, rfl, Lib.hid (by show _ = _; rw [HST.out, if_neg p3]), by first | rfl | trivial⟩
       case measure => simp [intOf]; omega
     ·obtain rfl : m = rn := by omega
      have hlo : ¬ (m : Int) < (m : Int) := by omega
      have hMe : rdF R (P + 1) i.rd = M := by
       have := HM.out
       rw [List.take_of_length_le (Nat.le_of_eq HRN.out)] at this
       exact this
      rw [hMe] at hM HTM0
      obtain ⟨tR, htR⟩ : ∃ tR, wrF R (M + 1 + dl) i.wt = tR := ⟨_, rfl⟩
      have HTR := Lib.hid htR
      rw [htR] at HTM0
      have HTM := HTM0
      have v1 : IntKind.i64.wrap (M + 1) = M + 1 := IntWalk.i64_in _ (by omega)
      have v2 : IntKind.i64.wrap (M + 1 + dl) = M + 1 + dl := IntWalk.i64_in _ (by omega)
      clear htR HTM0 hMe HM
      go_wp2_with fail
      go_loopw [58] (fun x wr => ∃ m : Nat, m ≤ wn ∧ x = .int .i64 m ∧ Hid (BoxI wr g (wrF R (M + 1 + dl) (i.wt.take m))) ∧ Hid (Below w.heap.size w wr) ∧ Hid (IntsF (g + 1) wr WA i.wt) ∧ Hid (Box wr g8 i.cells)) (fun x _ => wn - (intOf x).toNat)
      case atStart => exact ⟨0, Nat.zero_le _, rfl, HBX3, HBW3, HWA3, HB83⟩
      case round =>
       obtain ⟨m, hm, rfl, HBX, HBW, HWA, HB8⟩ := hrel
       by_cases hmt : m < wn
       ·obtain ⟨wd, sv, rfl, hwb, hsv, hwc, -, -⟩ := HWA.out.1.at_ (k := m) (by rw [HWN.out]; exact hmt)
        have hs0 := wt_nat i sv (List.mem_of_getElem? hsv)
        have HST : Hid (wrF R (M + 1 + dl) (i.wt.take (m + 1)) = if sv < 8 then (wrF R (M + 1 + dl) (i.wt.take m)).set sv.toNat (M + 1 + dl) else wrF R (M + 1 + dl) (i.wt.take m)) := by
         show _ = _
         rw [take_snoc' hsv, wrF_snoc]
        have HIBm := Lib.hid (wrF_in (v := M + 1 + dl) (B := 4 * 512 + 8) (by omega) (i.wt.take m) R HRB.out)
        obtain ⟨R5, hR5⟩ : ∃ R5, wrF R (M + 1 + dl) (i.wt.take m) = R5 := ⟨_, rfl⟩
        rw [hR5] at HBX HST HIBm
        obtain ⟨s, rfl⟩ : ∃ s : Nat, sv = (s : Int) := ⟨sv.toNat, by omega⟩
        have p1 : (0 : Int) ≤ (m : Int) := by omega
        have p2 : (m : Int) < (wn : Int) := by omega
        have wm : IntKind.i64.wrap ((m : Int) + 1) = ((m + 1 : Nat) : Int) := (IntWalk.i64_in _ (by omega)).trans (by omega)
        clear hR5 hsv hwb hs0
        by_cases hs8 : s < 8
        ·have p3 : (s : Int) < 8 := by omega
         have p4 : (0 : Int) ≤ (s : Int) := by omega
         obtain ⟨c5, c6⟩ := HBX.out.cell HIBm.out hs8
         have f5 : wr.cell? ⟨g8, 0, none⟩ = some (.int .i64 i.op) := (HB8.out.2.1 0).trans rfl
         rw [HOP.out] at f5
         go_upto_region 22 with (go_at_call 86; (with_reducible refine (CDl.out _).mono ?_); rintro e1 w9 ⟨rfl, rfl⟩)
         have HBX9 := Lib.hid (HBX.out.set HIBm.out (s := s) hs8 (M + 1 + dl))
         have HBW9 := Lib.hid (below_set (k := s) (u := .int .i64 (M + 1 + dl)) HBW.out HGB.out)
         have HWA9 := Lib.hid (HWA.out.away (grown_set (grown_refl _ (some g)) (k := s) (u := .int .i64 (M + 1 + dl))) (Nat.lt_succ_self g))
         have HB89 := Lib.hid (Box.past (b := g) (k := s) (u := .int .i64 (M + 1 + dl)) HB8.out (by have := HG8.out; omega))
         clear c5 c6 f5
         go_wp2_with fail
         go_roundw
         case rel => exact ⟨m + 1, by omega, rfl, Lib.hid (by show BoxI _ g _; rw [HST.out, if_pos (by omega), Int.toNat_natCast]; exact HBX9.out), HBW9, HWA9, HB89⟩
         case measure => simp [intOf]; omega
        ·have p3 : ¬ (s : Int) < 8 := by omega
         go_wp2_with fail
         go_roundw
         case rel => exact ⟨m + 1, by omega, rfl, Lib.hid (by show BoxI wr g _; rw [HST.out, if_neg (by omega)]; exact HBX.out), HBW, HWA, HB8⟩
         case measure => simp [intOf]; omega
       ·obtain rfl : m = wn := by omega
        have hlo : ¬ (m : Int) < (m : Int) := by omega
        go_wp2_with fail
        go_roundw
        case rel => exact ⟨k + 1, M, tR, by omega, rfl, rfl, HTM, Lib.hid (by
         show BoxI wr g tR
         have := HBX.out
         rw [List.take_of_length_le (Nat.le_of_eq HWN.out), HTR.out] at this
         exact this), HBW⟩
        case measure => simp [intOf]; omega
   ·obtain rfl : k = n := by omega
    have hlo : ¬ (k : Int) < (k : Int) := by omega
    have hT := HT.out
    rw [List.take_of_length_le (Nat.le_of_eq HN.out)] at hT
    have HTT := Lib.hid hT
    have wN : IntKind.i64.wrap (P + 1 - (k : Int)) = P + 1 - (k : Int) := IntWalk.i64_in _ (by omega)
    clear hT hNb hRb
    go_wp2_with fail
    go_ret3
    refine ⟨?_, HBW.out⟩
    rw [HE.out.1, HE.out.2.1, HE.out.2.2, HTT.out]; rfl
 ·have hfl : fineF l = false := by simpa using hfl
  have e1 : cycF l = 0 := by unfold cycF; rw [hfl]; rfl
  have e2 : stlF l = 0 := by unfold stlF; rw [hfl]; rfl
  have e3 : depE l = 21 := by unfold depE; rw [hfl]; rfl
  have HE : Hid (cycF l = 0 ∧ stlF l = 0 ∧ depE l = 21) := ⟨e1, e2, e3⟩
  clear e1 e2 e3 h hn h9 hf
  by_cases hE0 : E = 0
  ·subst hE0
   have hn0 : n = 0 := by
    have := mt (fine_encE l).2 (by rw [hfl]; decide)
    rw [HN.out] at this
    by_cases h0 : n = 0
    ·exact h0
    ·exact absurd ⟨hE, h0⟩ this
   subst hn0
   clear hE hfl
   go_enter Tryd.func56, Tryd.ntmps56
   go_wp2_with (go_at_call 84; (with_reducible refine CE.out.mono ?_); rintro e1 w1 ⟨⟨v, rfl, -⟩, hb1⟩)
   go_ret3
   refine ⟨?_, hb1⟩
   rw [HE.out.1, HE.out.2.1, HE.out.2.2]; rfl
  ·have hEb : (E == 0) = false := by simpa using hE0
   clear hE hfl
   go_enter Tryd.func56, Tryd.ntmps56
   go_wp2_with (go_at_call 84; (with_reducible refine CE.out.mono ?_); rintro e1 w1 ⟨⟨v, rfl, -⟩, hb1⟩)
   go_ret3
   refine ⟨?_, hb1⟩
   rw [HE.out.1, HE.out.2.1, HE.out.2.2]; rfl
end Go.Proofs.YtdiflpbioohddaaDoor
end
section
namespace Go.Proofs.YtdiflpbioohddaaDoor
open Go.RowKit
def qF (a b x : Ins) : Bool := decide (x = a ∨ x = b)
def Tr (x y : List Ins) : Prop := ∀ a b, (depF a b = true ∨ a = b) → x.filter (qF a b) = y.filter (qF a b)
theorem Tr.refl (x : List Ins) : Tr x x := fun _ _ _ => rfl
theorem depF_comm (a b : Ins) : depF a b = depF b a := by
 unfold depF
 rw [Bool.or_comm (a.op == 0), Bool.and_comm (sumOp a.op), Bool.or_comm (a.wt.any _)]
theorem cnt_filter {p : Ins → Bool} {v : Ins} (h : p v = true) (l : List Ins) : (l.filter p).count v = l.count v := by
 induction l with
 | nil => rfl
 | cons x l ih =>
  by_cases hx : p x = true
  ·rw [List.filter_cons_of_pos hx, List.count_cons, List.count_cons, ih]
  ·rw [List.filter_cons_of_neg hx, List.count_cons, ih]
   have : x ≠ v := fun e => hx (e ▸ h)
   simp [this]
theorem qF_self (a b : Ins) : qF a b a = true := by simp [qF]
theorem qF_other (a b : Ins) : qF a b b = true := by simp [qF]
theorem Tr.count {x y : List Ins} (h : Tr x y) (v : Ins) : x.count v = y.count v := by
 rw [← cnt_filter (qF_self v v) x, ← cnt_filter (qF_self v v) y, h v v (.inr rfl)]
theorem Tr.perm {x y : List Ins} (h : Tr x y) : x.Perm y := List.perm_iff_count.2 h.count
theorem take_snocI {l : List Ins} {k : Nat} {v : Ins} (h : l[k]? = some v) : l.take (k + 1) = l.take k ++ [v] := by
 rw [List.take_add_one, h]; rfl
def posF (m : List Ins) (v : Ins) : List Nat := (List.range m.length).filter fun p => decide (m[p]? = some v)
theorem pos_len (m : List Ins) (v : Ins) : ∀ t, t ≤ m.length → ((List.range t).filter fun p => decide (m[p]? = some v)).length = (m.take t).count v
 | 0, _ => by simp
 | t + 1, h => by
  have ih := pos_len m v t (by omega)
  obtain ⟨x, hx⟩ : ∃ x, m[t]? = some x := ⟨_, List.getElem?_eq_getElem (by omega)⟩
  rw [List.range_succ, List.filter_append, List.length_append, ih, take_snocI hx, List.count_append]
  by_cases e : x = v
  ·simp [hx, e]
  ·simp [hx, e]
theorem posF_len (m : List Ins) (v : Ins) : (posF m v).length = m.count v := by
 have := pos_len m v m.length (Nat.le_refl _)
 rw [List.take_length] at this
 exact this
theorem posF_mk {m : List Ins} {v : Ins} {p : Nat} (h : m[p]? = some v) : (posF m v)[(m.take p).count v]? = some p := by
 have hp : p < m.length := (List.getElem?_eq_some_iff.1 h).1
 unfold posF
 obtain ⟨d, hd⟩ : ∃ d, m.length = (p + 1) + d := ⟨m.length - (p + 1), by omega⟩
 rw [hd, List.range_add, List.filter_append, List.range_succ, List.filter_append, List.append_assoc, ← pos_len m v p (by omega), List.getElem?_append_right (Nat.le_refl _), Nat.sub_self]
 simp [h]
theorem posF_of {m : List Ins} {v : Ins} {c p : Nat} (h : (posF m v)[c]? = some p) : p < m.length ∧ m[p]? = some v ∧ (m.take p).count v = c := by
 have hm := List.mem_of_getElem? h
 obtain ⟨h1, h2⟩ := List.mem_filter.1 hm
 have h3 : m[p]? = some v := of_decide_eq_true h2
 refine ⟨by simpa using h1, h3, ?_⟩
 have h4 := posF_mk h3
 have nd : (posF m v).Nodup := (List.nodup_range).filter _
 have hc : c < (posF m v).length := (List.getElem?_eq_some_iff.1 h).1
 have hd : (m.take p).count v < (posF m v).length := (List.getElem?_eq_some_iff.1 h4).1
 exact (List.getElem?_inj hd nd).1 (h4.trans h.symm)
def plF (l m : List Ins) (i : Nat) : Nat := (posF m (l.getD i Ins.zero)).getD ((l.take i).count (l.getD i Ins.zero)) m.length
theorem getD_of {l : List Ins} {i : Nat} {v : Ins} (h : l[i]? = some v) : l.getD i Ins.zero = v := by rw [List.getD_eq_getElem?_getD, h]; rfl
theorem plF_some {l m : List Ins} {i : Nat} {v : Ins} (h : l[i]? = some v) (hc : (l.take i).count v < m.count v) : m[plF l m i]? = some v ∧ (m.take (plF l m i)).count v = (l.take i).count v := by
 unfold plF
 rw [getD_of h, List.getD_eq_getElem?_getD]
 obtain ⟨p, hp⟩ : ∃ p, (posF m v)[(l.take i).count v]? = some p := ⟨_, List.getElem?_eq_getElem (by rw [posF_len]; exact hc)⟩
 rw [hp]
 obtain ⟨-, h2, h3⟩ := posF_of hp
 exact ⟨h2, h3⟩
theorem cnt_take_lt {l : List Ins} {v : Ins} {k k' : Nat} (h : l[k]? = some v) (hk : k < k') : (l.take k).count v < (l.take k').count v := by
 have e : l.take (k + 1) = l.take k ++ [v] := take_snocI h
 have hs : ((l.take (k + 1)).Sublist (l.take k')) := (List.take_prefix_take_left (by omega)).sublist
 have := hs.count_le v
 rw [e, List.count_append] at this
 simp at this
 omega
theorem cnt_lt_all {l : List Ins} {v : Ins} {k : Nat} (h : l[k]? = some v) : (l.take k).count v < l.count v := by
 have := cnt_take_lt h (List.getElem?_eq_some_iff.1 h).1
 rwa [List.take_length] at this
theorem Tr.pl {x y : List Ins} (h : Tr x y) {i : Nat} {v : Ins} (hi : x[i]? = some v) : y[plF x y i]? = some v ∧ (y.take (plF x y i)).count v = (x.take i).count v :=
 plF_some hi (by rw [← h.count]; exact cnt_lt_all hi)
theorem Tr.symm {x y : List Ins} (h : Tr x y) : Tr y x := fun a b hd => (h a b hd).symm
def untk : List Ins → List Bool → List Ins
 | x :: l, t :: tk => if t then untk l tk else x :: untk l tk
 | _, _ => []
theorem untk_append : ∀ (l1 : List Ins) (t1 : List Bool) (l2 : List Ins) (t2 : List Bool), l1.length = t1.length → untk (l1 ++ l2) (t1 ++ t2) = untk l1 t1 ++ untk l2 t2
 | [], [], _, _, _ => rfl
 | [], _ :: _, _, _, h => by simp at h
 | _ :: _, [], _, _, h => by simp at h
 | x :: l1, t :: t1, l2, t2, h => by
  have ih := untk_append l1 t1 l2 t2 (by simpa using h)
  show (if t then untk (l1 ++ l2) (t1 ++ t2) else x :: untk (l1 ++ l2) (t1 ++ t2)) = (if t then untk l1 t1 else x :: untk l1 t1) ++ untk l2 t2
  cases t <;> simp [ih]
theorem untk_mem : ∀ (l : List Ins) (tk : List Bool) (x : Ins), x ∈ untk l tk → ∃ i : Nat, l[i]? = some x ∧ tk[i]? = some false
 | [], _, _, h => by simp [untk] at h
 | _ :: _, [], _, h => by simp [untk] at h
 | y :: l, t :: tk, x, h => by
  have h : x ∈ (if t then untk l tk else y :: untk l tk) := h
  cases t with
  | true =>
   obtain ⟨i, h1, h2⟩ := untk_mem l tk x (by simpa using h)
   exact ⟨i + 1, by simpa using h1, by simpa using h2⟩
  | false =>
   rcases List.mem_cons.1 (by simpa using h : x ∈ y :: untk l tk) with rfl | h
   ·exact ⟨0, rfl, rfl⟩
   ·obtain ⟨i, h1, h2⟩ := untk_mem l tk x h
    exact ⟨i + 1, by simpa using h1, by simpa using h2⟩
theorem untk_all : ∀ (l : List Ins), untk l (List.replicate l.length false) = l
 | [] => rfl
 | x :: l => by
  show x :: untk l (List.replicate l.length false) = _
  rw [untk_all l]
theorem untk_none : ∀ (l : List Ins) (tk : List Bool), tk.count false = 0 → untk l tk = []
 | [], _, _ => by simp [untk]
 | _ :: _, [], _ => rfl
 | x :: l, t :: tk, h => by
  cases t with
  | true => exact untk_none l tk (by simpa using h)
  | false => simp at h
theorem const_snoc {x : Ins} : ∀ {l : List Ins}, (∀ y ∈ l, y = x) → l ++ [x] = x :: l
 | [], _ => rfl
 | y :: l, h => by
  have := h y (List.mem_cons_self ..)
  subst this
  rw [List.cons_append, const_snoc fun z hz => h z (List.mem_cons_of_mem _ hz)]
theorem row_dep {l : List Ins} {tk : List Bool} {k i : Nat} (h : freeF l tk k = true) (hi : i < k) (hd : depF (l.getD i Ins.zero) (l.getD k Ins.zero) = true) : tk.getD i false = true := by
 unfold freeF at h
 rw [Bool.and_eq_true] at h
 have := List.all_eq_true.1 h.2 (i : Int) (by
  unfold depRow
  exact List.mem_map.2 ⟨i, List.mem_filter.2 ⟨by simpa using hi, hd⟩, rfl⟩)
 rwa [Int.toNat_natCast] at this
theorem gr_keeps {l : List Ins} {H : List Int} {c d : Ins} (hcd : depF c d = true ∨ c = d) : ∀ r, r ≤ l.length →
  (gr l H r).2.filter (qF c d) ++ (untk l (gr l H r).1).filter (qF c d) = l.filter (qF c d)
 | 0, _ => by
  show ([] : List Ins).filter _ ++ (untk l (List.replicate l.length false)).filter _ = _
  rw [untk_all]; rfl
 | r + 1, hr => by
  have ih := gr_keeps (l := l) (H := H) hcd r (by omega)
  obtain ⟨t1, t2, t3, t4, t5⟩ := gr_inv l H r (by omega)
  obtain ⟨k, hk, hb, hf⟩ := t5 (by omega)
  have hfree : freeF l (gr l H r).1 k = true := by
   rcases bestB_spec l H (tmF (gr l H r).2) (gr l H r).1 l.length with ⟨h5, -⟩ | ⟨k', -, h6, h7⟩
   ·rw [hb] at h5
    have := (Prod.mk.inj h5).1
    omega
   ·rw [hb] at h6
    have := (Prod.mk.inj h6).1
    have e : k = k' := by omega
    rw [e]; exact h7
  have e : gr l H (r + 1) = ((gr l H r).1.set k true, (gr l H r).2 ++ [l.getD k Ins.zero]) := by
   show grS l H (gr l H r) = _
   unfold grS
   rw [hb, Int.toNat_natCast]
  rw [e]
  generalize (gr l H r).1 = tk at ih t1 hf hfree ⊢
  generalize (gr l H r).2 = o at ih ⊢
  show (o ++ [l.getD k Ins.zero]).filter _ ++ (untk l (tk.set k true)).filter _ = _
  obtain ⟨v, hv⟩ : ∃ v, l[k]? = some v := ⟨_, List.getElem?_eq_getElem hk⟩
  rw [getD_of hv]
  obtain ⟨hk2, ef⟩ := List.getElem?_eq_some_iff.1 hf
  have el : l = l.take k ++ v :: l.drop (k + 1) := by
   obtain ⟨hk3, ev⟩ := List.getElem?_eq_some_iff.1 hv
   conv => lhs; rw [← List.take_append_drop k l, List.drop_eq_getElem_cons hk3, ev]
  have et : tk = tk.take k ++ false :: tk.drop (k + 1) := by
   conv => lhs; rw [← List.take_append_drop k tk, List.drop_eq_getElem_cons hk2, ef]
  have es : tk.set k true = tk.take k ++ true :: tk.drop (k + 1) := by
   have hl : (tk.take k).length = k := by rw [List.length_take]; omega
   conv => lhs; rw [et]
   rw [List.set_append_right _ _ (by omega), hl, Nat.sub_self]; rfl
  have hlen : (l.take k).length = (tk.take k).length := by rw [List.length_take, List.length_take, t1]
  have u1 : untk l tk = untk (l.take k) (tk.take k) ++ v :: untk (l.drop (k + 1)) (tk.drop (k + 1)) := by
   conv => lhs; rw [el, et]
   rw [untk_append _ _ _ _ hlen]; rfl
  have u2 : untk l (tk.set k true) = untk (l.take k) (tk.take k) ++ untk (l.drop (k + 1)) (tk.drop (k + 1)) := by
   rw [es]
   conv => lhs; rw [el]
   rw [untk_append _ _ _ _ hlen]; rfl
  rw [← ih, u1, u2]
  have hpre : qF c d v = true → ∀ y ∈ (untk (l.take k) (tk.take k)).filter (qF c d), y = v := fun hq y hy => by
   obtain ⟨hy1, hy2⟩ := List.mem_filter.1 hy
   obtain ⟨i, g1, g2⟩ := untk_mem _ _ _ hy1
   have hik : i < k := by
    have := (List.getElem?_eq_some_iff.1 g1).1
    rw [List.length_take] at this; omega
   rw [List.getElem?_take, if_pos hik] at g1 g2
   refine Classical.byContradiction fun hne => ?_
   have hdep : depF y v = true := by
    have k1 : v = c ∨ v = d := of_decide_eq_true hq
    have k2 : y = c ∨ y = d := of_decide_eq_true hy2
    rcases hcd with hcd | hcd
    ·rcases k1 with rfl | rfl <;> rcases k2 with rfl | rfl
     ·exact absurd rfl hne
     ·rw [depF_comm]; exact hcd
     ·exact hcd
     ·exact absurd rfl hne
    ·subst hcd
     rcases k1 with rfl | rfl <;> rcases k2 with rfl | rfl <;> exact absurd rfl hne
   have := row_dep hfree hik (by rw [getD_of g1, getD_of hv]; exact hdep)
   rw [List.getD_eq_getElem?_getD, g2] at this
   cases this
  rw [List.filter_append, List.filter_append, List.filter_append, List.append_assoc]
  congr 1
  by_cases hq : qF c d v = true
  ·rw [List.filter_cons_of_pos hq, List.filter_cons_of_pos hq]
   have hc := const_snoc (hpre hq)
   generalize List.filter (qF c d) (untk (List.take k l) (List.take k tk)) = L at hc ⊢
   show [v] ++ (L ++ _) = L ++ (v :: _)
   rw [← List.append_assoc, show ([v] ++ L : List Ins) = v :: L from rfl, ← hc, List.append_assoc]; rfl
  ·rw [List.filter_cons_of_neg hq, List.filter_cons_of_neg hq]; rfl
theorem Tr.greedy (l : List Ins) : Tr l (grF l) := fun c d hcd => by
 have h := gr_keeps (l := l) (H := htF l) hcd l.length (Nat.le_refl _)
 obtain ⟨-, t2, -⟩ := gr_inv l (htF l) l.length (Nat.le_refl _)
 rw [untk_none _ _ (by rw [t2]; omega)] at h
 rw [← h]
 show _ = (gr l (htF l) l.length).2.filter _
 simp
theorem getD_set_other {h : List Int} {i j : Nat} {v : Int} (hne : i ≠ j) : (h.set i v).getD j 0 = h.getD j 0 := by
 rw [List.getD_eq_getElem?_getD, List.getElem?_set_ne hne, ← List.getD_eq_getElem?_getD]
end Go.Proofs.YtdiflpbioohddaaDoor
end
section
namespace Go.Proofs.YtdiflpbioohddaaDoor
open Go.RowKit
end Go.Proofs.YtdiflpbioohddaaDoor
end
section
namespace Go.Proofs.YtdiflpbioohddaaDoor
open Go.RowKit
theorem anyX_one {P : Program} {md : Region.Mode} {ops : Array Oper} {Q : Exit → Act → World → Prop} {S : World → Prop} {fuel : Nat} {listed : Array Bool} {a : Act} {w : World} {i : Nat} {o : Oper} (hi : ops[i]? = some o) (hr : Region.ready md ops listed = [i]) (hg : o.guard = none) (hs : ∀ cs b, o.op ≠ .select cs b) (hd : ∀ d, o.dst = some d → d < a.tmps.size)
  (h : wpList P #[o] (fun e c w' => e = .normal ∧ ∃ v, c = a.put o.dst v ∧ (S w' ∧ wpAnyH P md ops Q S fuel (listed.setIfInBounds i true) (a.put o.dst v) w')) [o] a w) : wpAnyH P md ops Q S (fuel + 1) listed a w := by
 refine wpAnyH_all hr (by simp) fun j hj => ?_
 obtain rfl := List.mem_singleton.1 hj
 unfold wpOp
 have hw : Region.wanted o (yielded ops a.tmps) = true := by simp [Region.wanted, hg]
 simp only [hi, hw, if_true]
 exact .inl (wp_move_frame hg hs ⟨rfl, fun _ _ => rfl⟩ hd h (fun v w' h => h))
theorem run_call_fn {P : Program} {f : FuncId} {fn : Func} {ρ : Operand → Value} {o : Oper} {x : Operand} {args : Array Operand} {tys : Array TypeId} (ho : o.op = .call { callee := .value x, args := args, argTypes := tys }) (hx : ρ x = .func (.func f) #[] #[]) (hf : P.funcs[f]? = some fn) (hname : (fn.name == "runtime.NumGoroutine") = false) (hb : fn.body.isSome = true) (w : World) :
  (execOp ρ o).run P w = .ok (.enter f (args.map ρ)) w := by
 have h1 : fn.name ≠ "runtime.NumGoroutine" := by simpa using hname
 obtain ⟨c, hc⟩ := Option.isSome_iff_exists.1 hb
 unfold execOp
 simp only [ho]
 simp [resolve, hx, Deferred.ofValue, invoke, callFunc, hf, h1, hc]
theorem wp_call1 {P : Program} {ops : Array Oper} {rest : List Oper} {Q : Exit → Act → World → Prop} {a : Act} {w : World} {f : FuncId} {fn : Func} {o : Oper} {x : Operand} {args : Array Operand} {tys : Array TypeId} (hf : P.funcs[f]? = some fn) (hname : (fn.name == "runtime.NumGoroutine") = false) (hb : fn.body.isSome = true)
  (hg : o.guard = none) (ho : o.op = .call { callee := .value x, args := args, argTypes := tys }) (hx : a.eval x = .func (.func f) #[] #[]) (vs : Array Value) (hv : args.toList.map a.eval = vs.toList) {R : Ending → World → Prop} (hc : Calls P f vs w R)
  (h : ∀ e w', R e w' → ∃ v, e = .returned v ∧ wpList P ops Q rest (a.put o.dst v) w') : wpList P ops Q (o :: rest) a w := by
 refine wpList_plain hg fun K hK => ?_
 unfold Oper.wp
 have hv2 : args.map a.eval = vs := by
  apply Array.toList_inj.1
  rw [Array.toList_map]; exact hv
 rw [run_call_fn ho hx hf hname hb w, Oper.upon_enter, hv2]
 refine hc.mono fun e w' hr => ?_
 obtain ⟨v, rfl, h1⟩ := h e w' hr
 exact hK _ _ h1
end Go.Proofs.YtdiflpbioohddaaDoor
end
section
namespace Go.Proofs.YtdiflpbioohddaaDoor
open Go.RowKit
theorem flatI_set : ∀ (l : List Ins) (k : Nat) (i : Ins), (l.set k i).flatMap encI = ((((l.flatMap encI).set (k * 4) i.op).set (k * 4 + 1) i.a).set (k * 4 + 2) i.b).set (k * 4 + 3) i.imm
 | [], k, i => by simp
 | a :: l, 0, i => by simp [encI]
 | a :: l, k + 1, i => by
  rw [List.set_cons_succ, List.flatMap_cons, flatI_set l k i, List.flatMap_cons]
  show _ = (((([a.op, a.a, a.b, a.imm] ++ l.flatMap encI).set ((k + 1) * 4) i.op).set ((k + 1) * 4 + 1) i.a).set ((k + 1) * 4 + 2) i.b).set ((k + 1) * 4 + 3) i.imm
  rw [show (k + 1) * 4 = k * 4 + 1 + 1 + 1 + 1 by omega]
  simp [encI]
theorem OwnIR.block {base : Nat} {w : World} {g n c : Nat} {l : List Ins} (h : OwnIR base w (.slice (some ⟨g, 0, none⟩) n c) l) : base ≤ g ∧ g < w.heap.size := h.1.lt g rfl
theorem OwnIR.len {base : Nat} {w : World} {A : Option Addr} {n c : Nat} {l : List Ins} (h : OwnIR base w (.slice A n c) l) : n = l.length := by
 obtain ⟨A', c', e, -⟩ := own_form h.1
 injection e
theorem OwnIR.put {base : Nat} {w : World} {g n c : Nat} {l : List Ins} (h : OwnIR base w (.slice (some ⟨g, 0, none⟩) n c) l) (k : Nat) {i : Ins} (hi : i.ok) :
  OwnIR base (w.setCells g (k * 4) i.cells) (.slice (some ⟨g, 0, none⟩) n c) (l.set k i) := by
 have e2 := h.len
 subst e2
 have a0 := (h.1.stored (k * 4) (.int .i64 i.op)).1
 have a1 := (a0.stored (k * 4 + 1) (.int .i64 i.a)).1
 have a2 := (a1.stored (k * 4 + 2) (.int .i64 i.b)).1
 have a3 := (a2.stored (k * 4 + 3) (.int .i64 i.imm)).1
 refine ⟨by rw [List.length_set, flatI_set, List.map_set, List.map_set, List.map_set, List.map_set]; exact a3, fun q hq => ?_⟩
 rcases List.mem_or_eq_of_mem_set hq with hq | hq
 ·exact h.2 q hq
 ·subst hq; exact hi
theorem OwnIR.there {base : Nat} {w : World} {g n c : Nat} {l : List Ins} (h : OwnIR base w (.slice (some ⟨g, 0, none⟩) n c) l) {k : Nat} (hk : k < l.length) : w.there g (k * 4) 4 := by
 have e2 := h.len
 subst e2
 intro j hj
 refine ⟨?_, h.1.frozenAt _⟩
 rw [h.1.cellAt (k * 4 + j) (by omega), flatI_get (List.getElem?_eq_getElem hk) hj]
 show ((l[k].cells)[j]?).isSome = true
 match j, hj with
 | 0, _ | 1, _ | 2, _ | 3, _ => rfl
end Go.Proofs.YtdiflpbioohddaaDoor
end
section
set_option maxRecDepth 100000
namespace Go.Proofs.YtdiflpbioohddaaDoor
open Go.Joins Go.ChangeShapes Go.WideShapes Go.RowKit Go.Deep
theorem get_lt {α : Type} {l : List α} {n i : Nat} (h : l.length = n) (hi : i < n) : ∃ x, l[i]? = some x := ⟨_, List.getElem?_eq_getElem (h ▸ hi)⟩
end Go.Proofs.YtdiflpbioohddaaDoor
end
section
set_option maxRecDepth 100000
namespace Go.Proofs.YtdiflpbioohddaaDoor
open Go.Joins Go.ChangeShapes Go.WideShapes Go.RowKit
theorem trod_Ints {H : Type} {enc : TypeId × Value → H} {w : World} {base fuel : Nat} {spare : Nat → Bool} {held : Bool} {v : Value} {y : DataW H × List MemPlace}
  (hf : DataW.trod enc Tryd.prog w base spare held fuel 25 [v] = some y) :
  ∃ u : Option Addr × Nat × List Int, v = .slice u.1 u.2.2.length u.2.1 ∧ (Ints w u.1 u.2.2 ∧ u.2.2.length ≤ 9223372036854775807) := by
 rcases open_ints Tryd.underlying25 Tryd.underlying3 (by kernel_rfl) hf with ⟨hcs, _⟩ | ⟨x, l, c, zs, hcs, _, hl, hm, hz, _, hcell, hwz⟩
 ·simp at hcs
  subst hcs
  exact ⟨⟨none, 0, []⟩, rfl, Ints.nil, by simp⟩
 ·simp at hcs
  subst hcs
  have hlz : l ≤ zs.length := by rw [hz]; split <;> omega
  have hlen : (zs.take l).length = l := by simp; omega
  refine ⟨⟨some x, c, zs.take l⟩, by rw [hlen], ⟨fun k v hk => ?_, fun y hy => i64_of_wf (hwz y (List.mem_of_mem_take hy))⟩, by rw [hlen]; unfold maxLen at hm; omega⟩
  rw [List.getElem?_map] at hk
  cases hx : (zs.take l)[k]? with
  | none => rw [hx] at hk; cases hk
  | some q =>
   rw [hx] at hk
   simp only [Option.map_some, Option.some.injEq] at hk
   subst hk
   have hkl : k < l := by
    have := (List.getElem?_eq_some_iff.1 hx).1
    omega
   rw [List.getElem?_take_of_lt hkl] at hx
   have hc := hcell k (by omega)
   rw [List.getD_eq_getElem?_getD, hx] at hc
   have hb := cell_lt hc
   rw [block_add] at hb
   exact ⟨x, rfl, hb, hc⟩
end Go.Proofs.YtdiflpbioohddaaDoor
end
