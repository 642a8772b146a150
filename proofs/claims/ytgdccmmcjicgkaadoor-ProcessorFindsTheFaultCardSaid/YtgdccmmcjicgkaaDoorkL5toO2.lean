/- Several texts in one: L5 E7 E8 Ql E11 E12 E13 E15 U4 E16 E17 E19 E20 E21 E26 E29 O2. -/
import Derived.Test.YtgdccmmcjicgkaaDoorkL2toL4
import Derived.Test.YtgdccmmcjicgkaaDoorkE5toL1
import Derived.Laws.EntriesVeiled
import Derived.Test.YtgdccmmcjicgkaaDoorkPltoK
import Derived.Test.YtgdccmmcjicgkaaDoorkQtoU3
import Derived.Maps.AppendAt
import Derived.Deep.RegionHeld3
import Derived.Lib.MinMax
import Derived.OwnWalk
import Derived.Test.YtgdccmmcjicgkaaDoorkJ
import Derived.DeepKeys4
import Derived.WideKeyEntry
import Derived.Carry
import Derived.Test.YtgdccmmcjicgkaaDoorkE1toI0
import Derived.Test.YtgdccmmcjicgkaaDoorkJ2toJ8
import Derived.OrdersHeld
import Derived.Deep.Slices
import Derived.Lib.SmallJoins
set_option linter.unusedVariables false
set_option linter.unusedSimpArgs false
section
namespace Go.Proofs.YtgdccmmcjicgkaaDoor
open Go.RowKit
set_option maxRecDepth 100000 in
set_option maxHeartbeats 4000000 in
theorem r38_Format (A : Option Addr) (n c : Nat) (l : List Ins) (w : World) (h : InsAt w A l) (hn : l.length = n) (h9 : n ≤ 9223372036854775807) : Calls Tryd.prog 16 #[.slice A n c] w fun e w' => e = .returned (.tuple #[.string (str (fmtB l)), .int .i64 (encE l)]) ∧ Below w.heap.size w w' := by
  have hallok := h.ok
  have HI := Lib.hid h
  have HN := Lib.hid hn
  have HOK := Lib.hid hallok
  have CA : Hid (∀ w1, Below w.heap.size w w1 → Calls Tryd.prog 48 #[.slice A n c] w1 fun e w' => e = .returned (.bool (l.all Ins.formed)) ∧ Below w1.heap.size w1 w') := Lib.hid fun w1 hb => r38_AllFormed A n c l w1 (h.grow hb) hn h9
  clear h hn hallok
  by_cases h0 : (512 : Int) < (n : Int)
  · have e1 : encE l = 5 := by unfold encE; rw [if_pos (by rw [HN.out]; omega)]
    have e2 : fmtB l = [] := by unfold fmtB; rw [e1]; rfl
    rw [e1, e2]
    clear e1 e2
    go_enter Tryd.func16, Tryd.ntmps16
    go_wp2_with fail
    go_ret2
    exact ⟨rfl, Below.refl _ _⟩
  · have e1 : encE l = if l.all Ins.formed then 0 else 21 := by unfold encE; rw [if_neg (by rw [HN.out]; omega)]
    have hn512 : (n : Int) ≤ 512 := by omega
    obtain ⟨sf, hsf⟩ : ∃ s, str (fmtB l) = s := ⟨_, rfl⟩
    obtain ⟨E, hE⟩ : ∃ E, encE l = E := ⟨_, rfl⟩
    obtain ⟨x, hx⟩ : ∃ x, l.all Ins.formed = x := ⟨_, rfl⟩
    rw [hx] at e1 CA
    rw [hsf, hE]
    cases x with
    | false =>
      have he : E = 21 := by rw [← hE, e1]; rfl
      have hs : sf = str [] := by rw [← hsf]; unfold fmtB; rw [e1]; rfl
      subst he
      subst hs
      clear hsf hE hx e1
      go_enter Tryd.func16, Tryd.ntmps16
      go_wp2_with (go_at_call 48; (with_reducible refine (CA.out _ (Below.refl _ _)).mono ?_); rintro e1 w1 ⟨rfl, hb1⟩)
      go_ret2
      exact ⟨rfl, hb1⟩
    | true =>
      have he : E = 0 := by rw [← hE, e1]; rfl
      have HFE : Hid (str (fmtL l) = sf) := Lib.hid (by rw [← hsf]; unfold fmtB; rw [hE, if_pos he])
      have HAL := Lib.hid hx
      subst he
      clear hsf hE e1 hx
      go_enter Tryd.func16, Tryd.ntmps16
      go_upto_region 6 with (go_at_call 48; (with_reducible refine (CA.out _ (Below.refl _ _)).mono ?_); rintro e1 w1 ⟨rfl, hb1⟩)
      have HB1 := Lib.hid hb1
      clear hb1
      go_wp2_with fail
      go_loopw [4, 5] (fun s i wr => ∃ (k : Nat) (t : ByteArray), k ≤ n ∧ i = .int .i64 k ∧ s = .string t ∧ Hid (t = str (fmtL (l.take k))) ∧ Hid (Below w.heap.size w wr)) (fun _ i _ => n - (intOf i).toNat)
      case atStart => exact ⟨0, _, Nat.zero_le _, rfl, rfl, Lib.hid rfl, HB1⟩
      case round =>
        obtain ⟨k, t, hk, rfl, rfl, HT, HB⟩ := hrel
        by_cases hlt : k < n
        · obtain ⟨i, hi⟩ : ∃ i, l[k]? = some i := ⟨_, List.getElem?_eq_getElem (by rw [HN.out]; exact hlt)⟩
          obtain ⟨ad, rfl, hs, hb, hr, hok⟩ := (HI.out.grow HB.out) k i hi
          have HS := Lib.hid hs
          have HR := Lib.hid hr
          have q1 : (0 : Int) ≤ (k : Int) := by omega
          have q2 : (k : Int) < (n : Int) := by omega
          have wk : IntKind.i64.wrap ((k : Int) + 1) = ((k + 1 : Nat) : Int) := (IntWalk.i64_in _ (by omega)).trans (by omega)
          have hif : i.formed = true := List.all_eq_true.1 HAL.out i (List.mem_of_getElem? hi)
          have CL : Hid (∀ w1, Calls Tryd.prog 53 #[i.v] w1 fun e w' => e = .returned (.string (str (lineB i))) ∧ Below w1.heap.size w1 w') := Lib.hid fun w1 => r38_Line i w1 hif
          have hll : t.size ≤ 41472 := by
            have h1 := fmtL_len (take_ok HOK.out k)
            rw [List.length_take, HN.out] at h1
            have h2 : min k n ≤ 512 := by omega
            rw [HT.out, str_size]; omega
          have hli : (str (lineB i)).size ≤ 80 := by rw [str_size]; exact lineB_len hok
          have HT2 : Hid (t ++ str (lineB i) ++ str [10] = str (fmtL (l.take (k + 1)))) := Lib.hid (by rw [HT.out, str_add, str_add, fmtL_succ hi])
          obtain ⟨sl, hsl⟩ : ∃ s, str (lineB i) = s := ⟨_, rfl⟩
          rw [hsl] at CL hli HT2
          clear hs hr hb hi hok hif hsl
          go_wp2_with (first
            | ((with_reducible show wpList _ _ _ (Oper.mk _ (.load _ _) _ _ _ _ :: _) _ _); refine ld_insA HS.out HR.out rfl _ rfl rfl ?_)
            | (go_at_call 53; (with_reducible refine (CL.out _).mono ?_); rintro e2 w2 ⟨rfl, hb2⟩))
          go_roundw
          case rel => exact ⟨k + 1, _, by omega, rfl, rfl, HT2, Lib.hid (below_then HB.out hb2)⟩
          case measure => simp [intOf]; omega
        · obtain rfl : k = n := by omega
          have hlo : ¬ (k : Int) < (k : Int) := by omega
          have HTE : Hid (t = sf) := Lib.hid (by have := HT.out; rw [← HN.out, List.take_length] at this; exact this.trans HFE.out)
          go_wp2_with fail
          go_ret2
          exact ⟨congrArg (fun x => Ending.returned (.tuple #[.string x, .int .i64 0])) HTE.out, HB.out⟩
set_option maxRecDepth 100000 in
set_option maxHeartbeats 4000000 in
theorem r38_Encode (A : Option Addr) (n c : Nat) (l : List Ins) (w : World) (h : InsAt w A l) (hn : l.length = n) (h9 : n ≤ 9223372036854775807) : Calls Tryd.prog 14 #[.slice A n c] w fun e w' => (∃ v, e = .returned (.tuple #[v, .int .i64 (encE l)]) ∧ OwnBy w.heap.size w' v (encB l)) ∧ Below w.heap.size w w' := by
  have HI := Lib.hid h
  have HN := Lib.hid hn
  have CA : Hid (∀ w1, Below w.heap.size w w1 → Calls Tryd.prog 48 #[.slice A n c] w1 fun e w' => e = .returned (.bool (l.all Ins.formed)) ∧ Below w1.heap.size w1 w') := Lib.hid fun w1 hb => r38_AllFormed A n c l w1 (h.grow hb) hn h9
  clear h hn
  by_cases h0 : (512 : Int) < (n : Int)
  · have e1 : encE l = 5 := by unfold encE; rw [if_pos (by rw [HN.out]; omega)]
    have e2 : encB l = [] := by unfold encB; rw [e1]; rfl
    rw [e1, e2]
    clear e1 e2
    go_enter Tryd.func14, Tryd.ntmps14
    go_wp2_with fail
    go_ret2
    exact ⟨⟨_, rfl, World.ownsRow_nil _ _ _ _⟩, Below.refl _ _⟩
  · have e1 : encE l = if l.all Ins.formed then 0 else 21 := by unfold encE; rw [if_neg (by rw [HN.out]; omega)]
    have hn512 : (n : Int) ≤ 512 := by omega
    obtain ⟨E, hE⟩ : ∃ E, encE l = E := ⟨_, rfl⟩
    obtain ⟨bl, hbl⟩ : ∃ E, encB l = E := ⟨_, rfl⟩
    obtain ⟨x, hx⟩ : ∃ x, l.all Ins.formed = x := ⟨_, rfl⟩
    rw [hx] at e1 CA
    rw [hE, hbl]
    cases x with
    | false =>
      have he : E = 21 := by rw [← hE, e1]; rfl
      have hs : bl = [] := by rw [← hbl]; unfold encB; rw [e1]; rfl
      subst he
      subst hs
      clear hE hx e1 hbl
      go_enter Tryd.func14, Tryd.ntmps14
      go_wp2_with (go_at_call 48; (with_reducible refine (CA.out _ (Below.refl _ _)).mono ?_); rintro e1 w1 ⟨rfl, hb1⟩)
      go_ret2
      exact ⟨⟨_, rfl, World.ownsRow_nil _ _ _ _⟩, hb1⟩
    | true =>
      have he : E = 0 := by rw [← hE, e1]; rfl
      have HFE : Hid (l.flatMap Ins.bytes = bl) := Lib.hid (by rw [← hbl]; unfold encB; rw [hE, if_pos he])
      have HAL := Lib.hid hx
      subst he
      clear hE e1 hx hbl
      go_enter Tryd.func14, Tryd.ntmps14
      go_upto_region 6 with (go_at_call 48; (with_reducible refine (CA.out _ (Below.refl _ _)).mono ?_); rintro e1 w1 ⟨rfl, hb1⟩)
      have HB1 := Lib.hid hb1
      clear hb1
      go_wp2_with fail
      go_loopw [4, 5] (fun v i wr => ∃ (k : Nat) (bs : List Int), k ≤ n ∧ i = .int .i64 k ∧ Hid (bs = (l.take k).flatMap Ins.bytes) ∧ Hid (OwnBy w.heap.size wr v bs) ∧ Hid (Below w.heap.size w wr)) (fun _ i _ => n - (intOf i).toNat)
      case atStart => exact ⟨0, [], Nat.zero_le _, rfl, Lib.hid rfl, Lib.hid (World.ownsRow_nil _ _ _ _), HB1⟩
      case round =>
        obtain ⟨k, bs, hk, rfl, HBS, HO, HB⟩ := hrel
        by_cases hlt : k < n
        · obtain ⟨i, hi⟩ : ∃ i, l[k]? = some i := ⟨_, List.getElem?_eq_getElem (by rw [HN.out]; exact hlt)⟩
          obtain ⟨ad, rfl, hs, hb, hr, hok⟩ := (HI.out.grow HB.out) k i hi
          have HS := Lib.hid hs
          have HR := Lib.hid hr
          have q1 : (0 : Int) ≤ (k : Int) := by omega
          have q2 : (k : Int) < (n : Int) := by omega
          have wk : IntKind.i64.wrap ((k : Int) + 1) = ((k + 1 : Nat) : Int) := (IntWalk.i64_in _ (by omega)).trans (by omega)
          have HK := Lib.hid hi
          have hif : i.formed = true := List.all_eq_true.1 HAL.out i (List.mem_of_getElem? hi)
          obtain ⟨-, -, -, m0, m1⟩ := formed_parts hif
          have HM := Lib.hid (show -8388608 ≤ i.imm ∧ i.imm ≤ 8388608 from ⟨m0, m1⟩)
          clear hs hr hb hi hok hif m0 m1
          go_upto_region 10 with (first
            | ((with_reducible show wpList _ _ _ (Oper.mk _ (.load _ _) _ _ _ _ :: _) _ _); refine ld_insA HS.out HR.out rfl _ rfl rfl ?_)
            | ((with_reducible show wpList _ _ _ (Oper.mk _ (.store _ _ _) _ _ _ _ :: _) _ _); refine st_ins (w := wr.alloc (.cells Ins.zero.cells.toArray 24)) (g := wr.heap.size) (i := Ins.zero) (j := i) (Box.new rfl) rfl _ _ rfl rfl rfl ?_; intro w3 b2 p2))
          have hb2 := put_facts ((Below.refl wr.heap.size wr).alloc (Nat.le_refl _) (.cells Ins.zero.cells.toArray 24)) (Nat.le_refl _) p2
          have HB3 := Lib.hid (below_then HB.out hb2)
          have HO3 := Lib.hid (HO.out.grow hb2)
          have HLN : Hid (bs.length + 8 ≤ 100000000) := by
            show _ ≤ _
            rw [HBS.out, bytes_len, List.length_take]; omega
          have HBW : Hid (∀ b, u4.ownBlock = some b → w.heap.size ≤ b) := fun b hb => ((show World.ownsRow _ _ _ _ _ _ _ from HO.out).lt b hb).1
          obtain ⟨z0, z1, z2, z3⟩ := b2.c4
          generalize wr.heap.size = g6 at z0 z1 z2 z3 ⊢
          clear b2 p2 hb2
          by_cases hm : i.imm < 0
          · obtain ⟨U, hU⟩ : ∃ U, i.imm + 4294967296 = U := ⟨_, rfl⟩
            have hU0 : 0 ≤ U ∧ U < 4294967296 := by have := HM.out; omega
            have wU : wrap64 U = U := by unfold wrap64; omega
            have wU2 : wrap64 (i.imm + 4294967296) = U := by rw [hU]; exact wU
            have HMM : Hid (i.bytes = [i.op % 256, i.a % 256, i.b % 256, 0, U % 256, U / 256 % 256, U / 65536 % 256, U / 16777216]) := by
              show _ = _
              unfold Ins.bytes
              rw [show i.imm % 4294967296 = U by have := HM.out; omega, show U / 16777216 % 256 = U / 16777216 by omega]
            have HUU := Lib.hid hU
            clear hU
            go_upto_region 13 with fail
            have HO4 : Hid (OwnBy w.heap.size (w3.alloc (.cells ([i.op % 256, i.a % 256, i.b % 256, 0, U % 256, U / 256 % 256, U / 65536 % 256, U / 16777216].map (Value.int .u8)).toArray 5)) u4 bs) := Lib.hid (HO3.out.grow ((Below.refl _ _).alloc (Nat.le_refl _) _))
            have HAL : Hid (Below w3.heap.size w3 (w3.alloc (.cells ([i.op % 256, i.a % 256, i.b % 256, 0, U % 256, U / 256 % 256, U / 65536 % 256, U / 16777216].map (Value.int .u8)).toArray 5))) := Lib.hid ((Below.refl _ _).alloc (Nat.le_refl _) _)
            have HBX : Hid (Box (w3.alloc (.cells ([i.op % 256, i.a % 256, i.b % 256, 0, U % 256, U / 256 % 256, U / 65536 % 256, U / 16777216].map (Value.int .u8)).toArray 5)) w3.heap.size ([i.op % 256, i.a % 256, i.b % 256, 0, U % 256, U / 256 % 256, U / 65536 % 256, U / 16777216].map (Value.int .u8))) := Lib.hid (Box.new rfl)
            have HSZ : Hid (w.heap.size ≤ (w3.alloc (.cells ([i.op % 256, i.a % 256, i.b % 256, 0, U % 256, U / 256 % 256, U / 65536 % 256, U / 16777216].map (Value.int .u8)).toArray 5)).heap.size) := Lib.hid (Nat.le_trans HB3.out.size HAL.out.size)
            go_upto_region 8 with ((with_reducible show wpList _ _ _ (Oper.mk (some 52) _ _ _ _ _ :: _) _ _); refine app_bytes _ rfl _ _ rfl w.heap.size (v := u4) (l := bs) (q := w3.heap.size) (n := 8) (c := 8) (m := [i.op % 256, i.a % 256, i.b % 256, 0, U % 256, U / 256 % 256, U / 65536 % 256, U / 16777216]) rfl rfl HO4.out rfl HBX.out HLN.out HSZ.out ?_; intro v5 w5 ho5 hg5)
            have HB5 := Lib.hid ((below_then HB3.out HAL.out).grown hg5 (below_then HB3.out HAL.out).size HBW.out)
            have HO5 : Hid (OwnBy w.heap.size w5 v5 (bs ++ i.bytes)) := by show OwnBy _ _ _ _; rw [HMM.out]; exact ho5
            clear ho5 hg5
            go_wp2_with fail
            go_roundw
            case rel => exact ⟨k + 1, bs ++ i.bytes, by omega, rfl, Lib.hid (by show _ = _; rw [HBS.out, take_snoc' HK.out, List.flatMap_append]; simp), HO5, HB5⟩
            case measure => simp [intOf]; omega
          · have hU0 : 0 ≤ i.imm ∧ i.imm < 4294967296 := by have := HM.out; omega
            have HMM : Hid (i.bytes = [i.op % 256, i.a % 256, i.b % 256, 0, i.imm % 256, i.imm / 256 % 256, i.imm / 65536 % 256, i.imm / 16777216]) := by
              show _ = _
              unfold Ins.bytes
              rw [show i.imm % 4294967296 = i.imm by omega, show i.imm / 16777216 % 256 = i.imm / 16777216 by omega]
            go_upto_region 13 with fail
            have HO4 : Hid (OwnBy w.heap.size (w3.alloc (.cells ([i.op % 256, i.a % 256, i.b % 256, 0, i.imm % 256, i.imm / 256 % 256, i.imm / 65536 % 256, i.imm / 16777216].map (Value.int .u8)).toArray 5)) u4 bs) := Lib.hid (HO3.out.grow ((Below.refl _ _).alloc (Nat.le_refl _) _))
            have HAL : Hid (Below w3.heap.size w3 (w3.alloc (.cells ([i.op % 256, i.a % 256, i.b % 256, 0, i.imm % 256, i.imm / 256 % 256, i.imm / 65536 % 256, i.imm / 16777216].map (Value.int .u8)).toArray 5))) := Lib.hid ((Below.refl _ _).alloc (Nat.le_refl _) _)
            have HBX : Hid (Box (w3.alloc (.cells ([i.op % 256, i.a % 256, i.b % 256, 0, i.imm % 256, i.imm / 256 % 256, i.imm / 65536 % 256, i.imm / 16777216].map (Value.int .u8)).toArray 5)) w3.heap.size ([i.op % 256, i.a % 256, i.b % 256, 0, i.imm % 256, i.imm / 256 % 256, i.imm / 65536 % 256, i.imm / 16777216].map (Value.int .u8))) := Lib.hid (Box.new rfl)
            have HSZ : Hid (w.heap.size ≤ (w3.alloc (.cells ([i.op % 256, i.a % 256, i.b % 256, 0, i.imm % 256, i.imm / 256 % 256, i.imm / 65536 % 256, i.imm / 16777216].map (Value.int .u8)).toArray 5)).heap.size) := Lib.hid (Nat.le_trans HB3.out.size HAL.out.size)
            go_upto_region 8 with ((with_reducible show wpList _ _ _ (Oper.mk (some 52) _ _ _ _ _ :: _) _ _); refine app_bytes _ rfl _ _ rfl w.heap.size (v := u4) (l := bs) (q := w3.heap.size) (n := 8) (c := 8) (m := [i.op % 256, i.a % 256, i.b % 256, 0, i.imm % 256, i.imm / 256 % 256, i.imm / 65536 % 256, i.imm / 16777216]) rfl rfl HO4.out rfl HBX.out HLN.out HSZ.out ?_; intro v5 w5 ho5 hg5)
            have HB5 := Lib.hid ((below_then HB3.out HAL.out).grown hg5 (below_then HB3.out HAL.out).size HBW.out)
            have HO5 : Hid (OwnBy w.heap.size w5 v5 (bs ++ i.bytes)) := by show OwnBy _ _ _ _; rw [HMM.out]; exact ho5
            clear ho5 hg5
            go_wp2_with fail
            go_roundw
            case rel => exact ⟨k + 1, bs ++ i.bytes, by omega, rfl, Lib.hid (by show _ = _; rw [HBS.out, take_snoc' HK.out, List.flatMap_append]; simp), HO5, HB5⟩
            case measure => simp [intOf]; omega
        · obtain rfl : k = n := by omega
          have hlo : ¬ (k : Int) < (k : Int) := by omega
          have HBE : Hid (bs = bl) := Lib.hid (by have := HBS.out; rw [← HN.out, List.take_length] at this; exact this.trans HFE.out)
          go_wp2_with fail
          go_ret2
          exact ⟨⟨_, rfl, HBE.out ▸ HO.out⟩, HB.out⟩
end Go.Proofs.YtgdccmmcjicgkaaDoor
end
section
namespace Go.Proofs.YtgdccmmcjicgkaaDoor
open Go.RowKit
def sumOp (op : Int) : Bool := op == 2 || (op == 3 || op == 4)
def touchF (s : Bool) (v : Int) (r w : List Int) : Bool := !(s && v == 8) && (r.contains v || w.contains v)
def depF (i j : Ins) : Bool := (i.op == 0 || j.op == 0) || (i.wt.any (fun v => touchF (sumOp i.op && sumOp j.op) v j.rd j.wt) || j.wt.any (fun v => touchF (sumOp i.op && sumOp j.op) v i.rd i.wt))
def delayF (op : Int) : Int := if op = 6 then 1 else if op = 5 then 2 else 0
end Go.Proofs.YtgdccmmcjicgkaaDoor
end
section
namespace Go.Proofs.YtgdccmmcjicgkaaDoor
open Go.RowKit
theorem rd_len (i : Ins) : i.rd.length ≤ 2 := by unfold Ins.rd; split <;> (try split) <;> simp
theorem wt_len (i : Ins) : i.wt.length ≤ 1 := by unfold Ins.wt; split <;> (try split) <;> simp
end Go.Proofs.YtgdccmmcjicgkaaDoor
end
section
namespace Go.Proofs.YtgdccmmcjicgkaaDoor
theorem qld_mid {P : Program} {ops : Array Oper} {rest : List Oper} {o : Oper} {a : Act} {C : World → Prop} {Q : Act → Prop} (hw : Region.wanted o (yielded ops a.tmps) = true) (ty : TypeId) (x : Operand) (ho : o.op = .load ty x) (b k : Nat) (hx : a.eval x = .pointer (some ⟨b, k, none⟩)) (cs : List Value) (d : TypeDesc) (hc : ∀ w, C w → w.rangeAt b k cs)
    (hu : P.underlying ty = some d) (hd : d.isRow = true) (hi : (P.info? ty).map (·.size) = some cs.length) (h : wpQuiet P ops C Q rest (a.put o.dst (.agg cs.toArray))) : wpQuiet P ops C Q (o :: rest) a :=
  BigFrame.wpQuiet_want hw fun K hK => ⟨_, fun w hw' => by
    unfold Oper.quietAt execOp
    simp only [ho, hx, Instr.loadAt, Instr.sureAddr, Sem.run_bind, Sem.run_pure, Result.andThen_ok, run_loadVar_mid w b k ty cs d (hc w hw') hu hd hi]
    exact ⟨rfl, rfl⟩, hK _ h⟩
end Go.Proofs.YtgdccmmcjicgkaaDoor
end
section
namespace Go.Proofs.YtgdccmmcjicgkaaDoor
open Go.RowKit
def depRow (l : List Ins) (j m : Nat) : List Int := ((List.range m).filter fun i => depF (l.getD i Ins.zero) (l.getD j Ins.zero)).map fun i : Nat => (i : Int)
theorem qld_insA {ops : Array Oper} {rest : List Oper} {o : Oper} {a : Act} {Q : Act → Prop} {W : World} {i : Ins} {ad : Addr} {n : Nat} (hs : ad.spot = none) (hb : ad.block < W.heap.size) (hr : W.rangeAt ad.block (ad.off + n) i.cells) (hw : Region.wanted o (yielded ops a.tmps) = true) (x : Operand) (ho : o.op = .load 24 x) (hx : a.eval x = .pointer (some (ad.add n))) (h : wpQuiet Tryd.prog ops (fun w' => ∃ n : Ext W, w' = n.to) Q rest (a.put o.dst i.v)) : wpQuiet Tryd.prog ops (fun w' => ∃ n : Ext W, w' = n.to) Q (o :: rest) a := by
  obtain ⟨d, h1, h2⟩ := row_ins
  rw [add_noneI hs] at hx
  exact qld_mid hw _ x ho ad.block (ad.off + n) hx i.cells d (fun w hw' => by obtain ⟨n, rfl⟩ := hw'; exact range_keepI hr hb n.below) h1 h2 size_ins h
end Go.Proofs.YtgdccmmcjicgkaaDoor
end
section
namespace Go.Proofs.YtgdccmmcjicgkaaDoor
open Go.RowKit
def hitF (l : List Ins) (v : Int) (i k : Nat) : Bool := (List.range k).any fun m => decide (i < m) && (l.getD m Ins.zero).wt.contains v
def latX (l : List Ins) (x y : Ins) (i j : Nat) : Int := if delayF x.op = 0 ∨ y.rd.contains x.a = false then 1 else if hitF l x.a i j then 1 else 1 + delayF x.op
def latP (l : List Ins) (i j : Nat) : Int := latX l (l.getD i Ins.zero) (l.getD j Ins.zero) i j
end Go.Proofs.YtgdccmmcjicgkaaDoor
end
section
namespace Go.Proofs.YtgdccmmcjicgkaaDoor
open Go.RowKit
def htS (l : List Ins) (j : Nat) (h : List Int) (i : Int) : List Int := h.set i.toNat (max (h.getD i.toNat 0) (latP l i.toNat j + h.getD j 0))
def htI (l : List Ins) (j : Nat) (h : List Int) (is : List Int) : List Int := is.foldl (htS l j) h
def htJ (l : List Ins) (j : Nat) (h : List Int) : List Int := htI l j (h.set j (max (h.getD j 0) 1)) (depRow l j j)
def hts (l : List Ins) (n : Nat) : Nat → List Int
  | 0 => List.replicate n 0
  | k + 1 => htJ l (n - 1 - k) (hts l n k)
end Go.Proofs.YtgdccmmcjicgkaaDoor
end
section
namespace Go.Proofs.YtgdccmmcjicgkaaDoor
open Go.RowKit
def rdF (R : List Int) (N : Int) (rs : List Int) : Int := rs.foldl (fun m s => if s < 8 then max m (R.getD s.toNat 0) else m) N
def wrF (R : List Int) (v : Int) (ws : List Int) : List Int := ws.foldl (fun r s => if s < 8 then r.set s.toNat v else r) R
def tmS (t : Int × List Int) (i : Ins) : Int × List Int := (rdF t.2 t.1 i.rd + 1, wrF t.2 (rdF t.2 t.1 i.rd + 1 + delayF i.op) i.wt)
def tmF (l : List Ins) : Int × List Int := l.foldl tmS (0, List.replicate 8 0)
end Go.Proofs.YtgdccmmcjicgkaaDoor
end
section
namespace Go.Proofs.YtgdccmmcjicgkaaDoor
open Go.RowKit
def builtS (P : Program) (e : TypeId) (len : Nat) (parts : List (Nat × Value)) : Option (Array Value) :=
  match P.info? e with
  | some ie => match ie.zero with
    | some z => Instr.fill (fun i => some (i * ie.size, ie.size)) ((Array.range (len * ie.size)).map (z.cells[· % z.cells.size]!)) parts
    | none => none
  | none => none
theorem run_bldS {P : Program} (w : World) (t e : TypeId) (len : Nat) (parts : Array (Nat × Value)) (cells : Array Value) (hu : P.underlying t = some (.slice e)) (n : Nat) (hn : (P.info? e).map (·.size) = some n) (hl : len * n ≤ 2 ^ 24) (h0 : len * n ≠ 0) (h : builtS P e len parts.toList = some cells) :
    (Instr.buildSlice t len parts).run P w = .ok (.slice (some ⟨w.heap.size, 0, none⟩) len len) (w.alloc (.cells cells e)) := by
  unfold builtS at h
  cases hi : P.info? e with
  | none => simp [hi] at h
  | some ie =>
    cases hz : ie.zero with
    | none => simp [hi, hz] at h
    | some z =>
      simp only [hi, hz] at h
      have hs : ie.size = n := by simpa [hi] using hn
      subst hs
      have hl' : ¬ (2 ^ 24 < len * ie.size) := by omega
      simp [Instr.buildSlice, run_underlying hu, sizeOf, typeInfo, zeroValue, hi, hz, hl', h0, h]
      simp [go_sem]
theorem wp_bldS {ops : Array Oper} {rest : List Oper} {o : Oper} {a : Act} {Q : Exit → Act → World → Prop} {w : World} (hgd : o.guard = none) (ty e : TypeId) (len : Nat) (parts : Array (Nat × Operand)) (ho : o.op = .buildSlice ty len parts) (hu : Tryd.prog.underlying ty = some (.slice e)) (n : Nat) (hn : (Tryd.prog.info? e).map (·.size) = some n) (hl : len * n ≤ 2 ^ 24) (h0 : len * n ≠ 0)
    (ps : List (Nat × Value)) (hp : parts.toList.map (fun p => (p.1, a.eval p.2)) = ps) {cells : Array Value} (hb : builtS Tryd.prog e len ps = some cells)
    (h : wpList Tryd.prog ops Q rest (a.put o.dst (.slice (some ⟨w.heap.size, 0, none⟩) len len)) (w.alloc (.cells cells e))) : wpList Tryd.prog ops Q (o :: rest) a w := by
  have e1 : (parts.map fun (i, x) => (i, a.eval x)).toList = ps := by rw [Array.toList_map]; exact hp
  refine wpList_plain hgd fun _ hK => ?_
  unfold Oper.wp execOp
  simp only [ho, Sem.run_bind, run_bldS w ty e len _ cells hu n hn hl h0 (by rw [e1]; exact hb), Result.andThen_ok]
  exact hK _ _ h
end Go.Proofs.YtgdccmmcjicgkaaDoor
end
section
namespace Go.Proofs.YtgdccmmcjicgkaaDoor
open Go.RowKit
def encI (i : Ins) : List Int := [i.op, i.a, i.b, i.imm]
theorem flatI_get {l : List Ins} {k j : Nat} {i : Ins} (h : l[k]? = some i) (hj : j < 4) : ((l.flatMap encI).map (Value.int .i64))[k * 4 + j]? = i.cells[j]? := by
  rw [List.getElem?_map, flat_get (enc := encI) (sz := 4) (fun _ => rfl) l k j i h hj, ← List.getElem?_map]; rfl
theorem InsAt.row {w : World} {A : Option Addr} {l : List Ins} (h : InsAt w A l) : ∀ j u, ((l.flatMap encI).map (Value.int .i64))[j]? = some u → ∃ ad, A = some ad ∧ w.cell? (ad.add j) = some u := fun j u hu => by
  have hj : j < l.length * 4 := by
    have := (List.getElem?_eq_some_iff.1 hu).1
    rw [List.length_map, flat_length (enc := encI) (sz := 4) (fun _ => rfl)] at this
    exact this
  have hk : j / 4 < l.length := by omega
  have ht : l[j / 4]? = some l[j / 4] := List.getElem?_eq_getElem hk
  obtain ⟨ad, e, hs, -, hr, -⟩ := h _ _ ht
  refine ⟨ad, e, ?_⟩
  have ej : j = j / 4 * 4 + j % 4 := by omega
  rw [ej, flatI_get ht (by omega)] at hu
  rw [add_noneI hs, show ad.off + j = ad.off + j / 4 * 4 + j % 4 by omega]
  exact hr (j % 4) u hu
theorem InsAt.grown {w w' : World} {A : Option Addr} {l : List Ins} {r : Option Nat} (h : InsAt w A l) (hg : w.grownBy w' r) (hn : ∀ a, A = some a → some a.block ≠ r) : InsAt w' A l := fun k i hk => by
  obtain ⟨ad, e, h1, h2, h3, h4⟩ := h k i hk
  exact ⟨ad, e, h1, Nat.lt_of_lt_of_le h2 hg.size, fun j v hj => hg.cell (h3 j v hj) (hn ad e), h4⟩
theorem nums_one {l : List Int} : ∀ u ∈ l.map (Value.int .i64), u.oneCell' = true := fun u hu => by
  obtain ⟨x, _, rfl⟩ := List.mem_map.1 hu; rfl
theorem info_ins : (Tryd.prog.info? 24).map (fun i => (i.zero, i.size, i.bytes)) = some (some (.agg #[.int .i64 0, .int .i64 0, .int .i64 0, .int .i64 0]), 4, 32) := by kernel_rfl
theorem und_ins : Tryd.prog.underlying 22 = some (.slice 24) := Tryd.underlying22
theorem built_ins1 (i : Ins) : builtS Tryd.prog 24 1 [(0, i.v)] = some (i.cells.toArray) := by kernel_rfl
def OwnIR (base : Nat) (w : World) (v : Value) (l : List Ins) : Prop := w.ownsRow base 24 4 v l.length ((l.flatMap encI).map (Value.int .i64)) ∧ ∀ i ∈ l, i.ok
theorem OwnIR.nil {base : Nat} {w : World} : OwnIR base w (.slice none 0 0) [] := ⟨World.ownsRow_nil _ _ _ _, by simp⟩
theorem OwnIR.grow {base : Nat} {w w' : World} {v : Value} {l : List Ins} (h : OwnIR base w v l) (hb : Below w.heap.size w w') : OwnIR base w' v l := ⟨own_grow h.1 hb, h.2⟩
theorem OwnIR.base {base base' : Nat} {w : World} {v : Value} {l : List Ins} (h : OwnIR base w v l) (hb : base' ≤ base) : OwnIR base' w v l := ⟨own_base h.1 hb, h.2⟩
theorem OwnIR.store {base g k : Nat} {w : World} {v u : Value} {l : List Ins} (h : OwnIR base w v l) (hg : g < base) : OwnIR base (w.setCell ⟨g, k, none⟩ u) v l := ⟨own_store h.1 hg, h.2⟩
theorem OwnIR.ge {base : Nat} {w : World} {v : Value} {l : List Ins} (h : OwnIR base w v l) : ∀ k, v.ownBlock = some k → base ≤ k := fun k hk => (h.1.lt k hk).1
theorem OwnIR.form {base : Nat} {w : World} {v : Value} {l : List Ins} (h : OwnIR base w v l) : ∃ A c, v = .slice A l.length c ∧ l.length ≤ c ∧ InsAt w A l := by
  obtain ⟨A, c, rfl, hc⟩ := own_form h.1
  refine ⟨A, c, rfl, hc, fun k i hk => ?_⟩
  have hc4 : ∀ j v, i.cells[j]? = some v → ∃ g, A = some ⟨g, 0, none⟩ ∧ g < w.heap.size ∧ w.cell? ⟨g, k * 4 + j, none⟩ = some v := fun j v hj => by
    have hj4 : j < 4 := (List.getElem?_eq_some_iff.1 hj).1
    obtain ⟨g, e0, hg, d0⟩ := own_cells h.1 (k := k * 4 + j) (v := v) (by rw [flatI_get hk hj4]; exact hj)
    exact ⟨g, e0, hg, d0⟩
  obtain ⟨g, e0, hg, d0⟩ := hc4 0 _ rfl
  refine ⟨⟨g, 0, none⟩, e0, rfl, hg, fun j v hj => ?_, h.2 i (List.mem_of_getElem? hk)⟩
  obtain ⟨g1, e1, hg1, d1⟩ := hc4 j v hj
  rw [e0] at e1
  injection e1 with e1; injection e1 with e1
  subst e1
  rw [show (⟨g, 0, none⟩ : Addr).off + k * 4 + j = k * 4 + j by show 0 + k * 4 + j = _; omega]
  exact d1
theorem OwnIR.single {w : World} {i : Ins} (hi : i.ok) : OwnIR w.heap.size (w.alloc (.cells i.cells.toArray 24)) (.slice (some ⟨w.heap.size, 0, none⟩) 1 1) [i] :=
  ⟨World.ownsRow_lit w i.cells.toArray 1 (Nat.le_refl _) (by unfold maxLen; omega) (by kernel_rfl), fun x hx => by rw [List.mem_singleton.1 hx]; exact hi⟩
theorem app_ins {ops : Array Oper} {rest : List Oper} {o : Oper} {a : Act} {Q : Exit → Act → World → Prop} (w : World) (hg : o.guard = none) (s x : Operand) (ho : o.op = .call { callee := .builtin .append, args := #[s, x], argTypes := #[22, 22] })
    (base : Nat) {v : Value} {l m : List Ins} {A : Option Addr} {n c : Nat} (hs : a.eval s = v) (hx : a.eval x = .slice A n c) (hown : OwnIR base w v l) (hI : InsAt w A m) (hm : m.length = n) (hn : l.length + n ≤ 100000000) (hbase : base ≤ w.heap.size)
    (h : ∀ v' w', OwnIR base w' v' (l ++ m) → Below base w w' → wpList Tryd.prog ops Q rest (a.put o.dst v') w') : wpList Tryd.prog ops Q (o :: rest) a w := by
  subst hm
  refine app_row w hg s x 22 24 (.agg #[.int .i64 0, .int .i64 0, .int .i64 0, .int .i64 0]) 4 32 ho und_ins info_ins rfl (by decide) (by decide) base hs hx hown.1 (ys := (m.flatMap encI).map (Value.int .i64)) ?_ hI.row nums_one hn hbase fun v' w' h1 h2 h3 => h v' w' ⟨?_, ?_⟩ (own_below (Below.refl _ _) hbase hown.ge h2)
  · rw [List.length_map, flat_length (enc := encI) (sz := 4) (fun _ => rfl)]
  · rw [List.flatMap_append, List.map_append, List.length_append]; exact h1
  · intro i hi
    rcases List.mem_append.1 hi with hi | hi
    · exact hown.2 i hi
    · exact hI.ok i hi
theorem bld_ins1 {ops : Array Oper} {rest : List Oper} {o : Oper} {a : Act} {Q : Exit → Act → World → Prop} {w : World} {i : Ins} (hgd : o.guard = none) (x : Operand) (ho : o.op = .buildSlice 22 1 #[(0, x)]) (hx : a.eval x = i.v)
    (h : wpList Tryd.prog ops Q rest (a.put o.dst (.slice (some ⟨w.heap.size, 0, none⟩) 1 1)) (w.alloc (.cells i.cells.toArray 24))) : wpList Tryd.prog ops Q (o :: rest) a w :=
  wp_bldS hgd 22 24 1 _ ho und_ins 4 size_ins (by decide) (by decide) _ rfl (by show builtS Tryd.prog 24 1 [(0, a.eval x)] = _; rw [hx]; exact built_ins1 i) h
end Go.Proofs.YtgdccmmcjicgkaaDoor
end
section
namespace Go.Proofs.YtgdccmmcjicgkaaDoor
def issF (t : Int × List Int) (i : Ins) : Int := rdF t.2 t.1 i.rd
def freeF (l : List Ins) (tk : List Bool) (k : Nat) : Bool := !(tk.getD k false) && (depRow l k k).all fun i => tk.getD i.toNat false
def betF (l : List Ins) (H : List Int) (t : Int × List Int) (b : Int × Int) (k : Nat) : Bool :=
  decide (b.1 < 0) || decide (issF t (l.getD k Ins.zero) < b.2) || (decide (issF t (l.getD k Ins.zero) = b.2) && decide (H.getD b.1.toNat 0 < H.getD k 0))
def stepB (l : List Ins) (H : List Int) (t : Int × List Int) (tk : List Bool) (b : Int × Int) (k : Nat) : Int × Int :=
  if freeF l tk k then (if betF l H t b k then ((k : Int), issF t (l.getD k Ins.zero)) else b) else b
def bestB (l : List Ins) (H : List Int) (t : Int × List Int) (tk : List Bool) (m : Nat) : Int × Int := (List.range m).foldl (stepB l H t tk) (-1, 0)
def grS (l : List Ins) (H : List Int) (s : List Bool × List Ins) : List Bool × List Ins :=
  (s.1.set (bestB l H (tmF s.2) s.1 l.length).1.toNat true, s.2 ++ [l.getD (bestB l H (tmF s.2) s.1 l.length).1.toNat Ins.zero])
def gr (l : List Ins) (H : List Int) : Nat → List Bool × List Ins
  | 0 => (List.replicate l.length false, [])
  | r + 1 => grS l H (gr l H r)
end Go.Proofs.YtgdccmmcjicgkaaDoor
end
section
namespace Go.Proofs.YtgdccmmcjicgkaaDoor
open Go.RowKit
def lenOf : Value → Nat
  | .slice _ n _ => n
  | _ => 0
end Go.Proofs.YtgdccmmcjicgkaaDoor
end
section
namespace Go.Proofs.YtgdccmmcjicgkaaDoor
open Go.RowKit
theorem emp_ins {w : World} : OwnIR w.heap.size (w.alloc (.cells #[] 24)) (.slice (some ⟨w.heap.size, 0, none⟩) 0 0) [] :=
  ⟨⟨rfl, .inr ⟨w.heap.size, 0, #[], rfl, Nat.le_refl _, heap_alloc_new w _, Nat.le_refl _, by simp, by simp, by simp⟩⟩, by simp⟩
end Go.Proofs.YtgdccmmcjicgkaaDoor
end
section
namespace Go.Proofs.YtgdccmmcjicgkaaDoor
open Go.RowKit
def litI (w : World) (l : List Ins) : World := w.alloc (.cells ((l.flatMap encI).map (Value.int .i64)).toArray 24)
theorem InsAt.lit {w : World} {l : List Ins} (hl : ∀ i ∈ l, i.ok) : InsAt (litI w l) (some ⟨w.heap.size, 0, none⟩) l := fun k i hk => by
  refine ⟨_, rfl, rfl, by unfold litI; simp, fun j v hj => ?_, hl i (List.mem_of_getElem? hk)⟩
  have hj4 : j < 4 := (List.getElem?_eq_some_iff.1 hj).1
  have hb := Box.new (w := w) (vs := ((l.flatMap encI).map (Value.int .i64)).toArray) (t := 24) (g := w.heap.size) rfl
  have h2 := hb.2.1 (k * 4 + j)
  rw [show (⟨w.heap.size, 0, none⟩ : Addr).off + k * 4 + j = k * 4 + j by show 0 + k * 4 + j = _; omega]
  exact h2.trans ((flatI_get hk hj4).trans hj)
theorem litI_below (w : World) (l : List Ins) : Below w.heap.size w (litI w l) := (Below.refl _ _).alloc (Nat.le_refl _) _
end Go.Proofs.YtgdccmmcjicgkaaDoor
end
section
namespace Go.Proofs.YtgdccmmcjicgkaaDoor
open Go.RowKit
end Go.Proofs.YtgdccmmcjicgkaaDoor
end
section
namespace Go.Proofs.YtgdccmmcjicgkaaDoor
open Go.RowKit
theorem flatI_set : ∀ (l : List Ins) (k : Nat) (i : Ins), (l.set k i).flatMap encI = ((((l.flatMap encI).set (k * 4) i.op).set (k * 4 + 1) i.a).set (k * 4 + 2) i.b).set (k * 4 + 3) i.imm
  | [], k, i => by simp
  | a :: l, 0, i => by simp [encI]
  | a :: l, k + 1, i => by
    rw [List.set_cons_succ, List.flatMap_cons, flatI_set l k i, List.flatMap_cons]
    show _ = (((([a.op, a.a, a.b, a.imm] ++ l.flatMap encI).set ((k + 1) * 4) i.op).set ((k + 1) * 4 + 1) i.a).set ((k + 1) * 4 + 2) i.b).set ((k + 1) * 4 + 3) i.imm
    rw [show (k + 1) * 4 = k * 4 + 1 + 1 + 1 + 1 by omega]
    simp [encI]
theorem OwnIR.block {base : Nat} {w : World} {g n c : Nat} {l : List Ins} (h : OwnIR base w (.slice (some ⟨g, 0, none⟩) n c) l) : base ≤ g ∧ g < w.heap.size := h.1.lt g rfl
theorem OwnIR.len {base : Nat} {w : World} {A : Option Addr} {n c : Nat} {l : List Ins} (h : OwnIR base w (.slice A n c) l) : n = l.length := by
  obtain ⟨A', c', e, -⟩ := own_form h.1
  injection e
theorem OwnIR.put {base : Nat} {w : World} {g n c : Nat} {l : List Ins} (h : OwnIR base w (.slice (some ⟨g, 0, none⟩) n c) l) (k : Nat) {i : Ins} (hi : i.ok) :
    OwnIR base (w.setCells g (k * 4) i.cells) (.slice (some ⟨g, 0, none⟩) n c) (l.set k i) := by
  have e2 := h.len
  subst e2
  have a0 := (h.1.stored (k * 4) (.int .i64 i.op)).1
  have a1 := (a0.stored (k * 4 + 1) (.int .i64 i.a)).1
  have a2 := (a1.stored (k * 4 + 2) (.int .i64 i.b)).1
  have a3 := (a2.stored (k * 4 + 3) (.int .i64 i.imm)).1
  refine ⟨by rw [List.length_set, flatI_set, List.map_set, List.map_set, List.map_set, List.map_set]; exact a3, fun q hq => ?_⟩
  rcases List.mem_or_eq_of_mem_set hq with hq | hq
  · exact h.2 q hq
  · subst hq; exact hi
theorem OwnIR.there {base : Nat} {w : World} {g n c : Nat} {l : List Ins} (h : OwnIR base w (.slice (some ⟨g, 0, none⟩) n c) l) {k : Nat} (hk : k < l.length) : w.there g (k * 4) 4 := by
  have e2 := h.len
  subst e2
  intro j hj
  refine ⟨?_, h.1.frozenAt _⟩
  rw [h.1.cellAt (k * 4 + j) (by omega), flatI_get (List.getElem?_eq_getElem hk) hj]
  show ((l[k].cells)[j]?).isSome = true
  match j, hj with
  | 0, _ | 1, _ | 2, _ | 3, _ => rfl
end Go.Proofs.YtgdccmmcjicgkaaDoor
end
section
set_option maxRecDepth 100000
namespace Go.Proofs.YtgdccmmcjicgkaaDoor
open Go.Joins Go.ChangeShapes Go.WideShapes Go.RowKit Go.Deep
theorem get_lt {α : Type} {l : List α} {n i : Nat} (h : l.length = n) (hi : i < n) : ∃ x, l[i]? = some x := ⟨_, List.getElem?_eq_getElem (h ▸ hi)⟩
theorem open_rowsR {H : Type} {enc : TypeId × Value → H} {w : World} {base fuel : Nat} {β : Type} [Inhabited β] {t e : TypeId} {k : Nat} (ht : Tryd.prog.underlying t = some (.slice e)) (hk : Tryd.prog.cellsOf e = k) (R : Addr → β → Prop)
    (each : ∀ (m : Nat) (a : Addr) (cs : List Value) (y : DataW H × List MemPlace), w.cells? base a k = some cs → DataW.trod enc Tryd.prog w base (fun _ => true) true m e cs = some y → ∃ b, R a b) {v : Value} {y : DataW H × List MemPlace}
    (hf : DataW.trod enc Tryd.prog w base (fun _ => true) true fuel t [v] = some y) :
    ∃ u : Option Addr × Nat × List β, v = .slice u.1 u.2.2.length u.2.1 ∧ (∀ (i : Nat) b, u.2.2[i]? = some b → ∃ ad, u.1 = some ad ∧ R (ad.add (i * k)) b) ∧ u.2.2.length ≤ 9223372036854775807 := by
  subst hk
  rcases open_slice ht hf with ⟨hcs, _⟩ | ⟨x, l, c, m, n, D, Pl, hcs, _, hl, hm, hmm, _, hrow⟩
  · simp at hcs
    subst hcs
    exact ⟨⟨none, 0, []⟩, rfl, fun i b h => by simp at h, by simp⟩
  · simp at hcs
    subst hcs
    simp only [if_true] at hmm
    have each : ∀ i, i < l → ∃ s : β, R (x.add (i * Tryd.prog.cellsOf e)) s := fun i hi => by
      obtain ⟨cs', h1, h2⟩ := hrow i (by omega)
      exact each _ _ _ _ h1 h2
    obtain ⟨S, hS⟩ := choose_lt (α := β) each
    have hlen : ((List.range l).map S).length = l := by simp
    refine ⟨⟨some x, c, (List.range l).map S⟩, by rw [hlen], fun k s hk => ?_, by rw [hlen]; unfold maxLen at hm; omega⟩
    have hkl : k < l := by
      have := (List.getElem?_eq_some_iff.1 hk).1
      simpa using this
    rw [List.getElem?_map, List.getElem?_range hkl] at hk
    simp only [Option.map_some, Option.some.injEq] at hk
    subst hk
    exact ⟨x, rfl, hS k hkl⟩
theorem spot_none {w : World} {a : Addr} {v : Value} (h : w.cell? a = some v) : a.spot = none := by
  unfold World.cell? at h
  split at h
  · cases hs : a.spot with
    | none => rfl
    | some s => rw [hs] at h; simp at h
  · cases h
end Go.Proofs.YtgdccmmcjicgkaaDoor
end
