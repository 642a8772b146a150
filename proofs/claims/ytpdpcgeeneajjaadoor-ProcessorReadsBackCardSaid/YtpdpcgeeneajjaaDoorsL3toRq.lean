/- Several texts in one: L3 Rt Rq. -/
import Derived.Test.YtpdpcgeeneajjaaDoorsRptoL2
import Derived.Lib.LaidTab
import Derived.Test.YtpdpcgeeneajjaaDoorSh
import Derived.Test.YtpdpcgeeneajjaaDoorsQtoU3
import Derived.Laws.DeepStrings4
set_option linter.unusedVariables false
set_option linter.unusedSimpArgs false
section
namespace Go.Proofs.YtpdpcgeeneajjaaDoor
open Go.RowKit
structure PrAt (w : World) : Prop where
  forms : FormsAt w
  word : ∀ k, k < 12 → w.cell? ⟨0, k * 4, none⟩ = some (.string (opStr k))
  tab : Lib.TabIs Tryd.prog w "internal/strconv.uint64pow10" .u64 Lib.pow10Tab
theorem gTab : ∃ g, Tryd.prog.globalNamed "internal/strconv.uint64pow10" = some g := ⟨(Tryd.prog.globalNamed "internal/strconv.uint64pow10").getD 0, by kernel_rfl⟩
theorem PrAt.grow {w w' : World} (h : PrAt w) (hb : Below w.heap.size w w') : PrAt w' := by
  obtain ⟨g, hg⟩ := gTab
  exact ⟨h.forms.grow hb, fun k hk => (hb.cell (p := ⟨0, k * 4, none⟩) h.forms.pos).trans (h.word k hk), Go.Joins.tab_stays hg h.tab hb (Nat.le_refl _)⟩
theorem lib_Itoa (v : Int) (w : World) (h : PrAt w) (hv : I64 v) : Calls Tryd.prog 56 #[.int .i64 v] w fun e w' => e = .returned (.string (str (Lib.itoa v))) ∧ Below w.heap.size w w' :=
  (Tryd.strconv_Itoa v hv.1 hv.2 w h.tab).mono fun e w' ⟨h1, k, os, h2⟩ => ⟨h1, h2 ▸ Lib.below_grow w.heap.size w (Nat.le_refl _) k os⟩
theorem run_ix3 (p q r : Int) (n : Nat) (hn : n < 3) (w : World) : (Instr.index 88 (.agg #[.int .i64 p, .int .i64 q, .int .i64 r]) (.int .i64 (n : Int))).run Tryd.prog w = .ok (.int .i64 ([p, q, r].getD n 0)) w := by
  have h1 : ((n : Int) < 3) := by omega
  match n, hn, h1 with
  | 0, _, _ => simp [Instr.index, go_sem, run_underlying Tryd.underlying88, Tryd.sizeOf3, part, Tryd.isAgg3]
  | 1, _, _ => simp [Instr.index, go_sem, run_underlying Tryd.underlying88, Tryd.sizeOf3, part, Tryd.isAgg3]
  | 2, _, _ => simp [Instr.index, go_sem, run_underlying Tryd.underlying88, Tryd.sizeOf3, part, Tryd.isAgg3]
theorem wp_ix3 {ops : Array Oper} {rest : List Oper} {o : Oper} {a : Act} {Q : Exit → Act → World → Prop} {w : World} (hgd : o.guard = none) (x y : Operand) (ho : o.op = .index 88 x y) (p q r : Int) (n : Nat) (hn : n < 3) (hx : a.eval x = .agg #[.int .i64 p, .int .i64 q, .int .i64 r]) (hy : a.eval y = .int .i64 (n : Int))
    (h : wpList Tryd.prog ops Q rest (a.put o.dst (.int .i64 ([p, q, r].getD n 0))) w) : wpList Tryd.prog ops Q (o :: rest) a w := by
  refine wpList_plain hgd fun _ hK => ?_
  unfold Oper.wp execOp
  simp only [ho, hx, hy, Sem.run_bind, Sem.run_pure, Result.andThen_ok, run_ix3 p q r n hn w]
  exact hK _ _ h
def fK (k : Nat) : Nat → Int
  | 0 => kA k | 1 => kB k | _ => kC k
def fV (i : Ins) : Nat → Int
  | 0 => i.a | 1 => i.b | _ => i.imm
def lineP (i : Ins) : Nat → List UInt8
  | 0 => (opStr i.op.toNat).data.toList
  | n + 1 => lineP i n ++ partB (fK i.op.toNat n) (fV i n)
theorem lineP_len {i : Ins} (h : i.ok) : ∀ n, (lineP i n).length ≤ 5 + 23 * n
  | 0 => by have := opStr_len i.op.toNat; show (opStr i.op.toNat).data.toList.length ≤ _; omega
  | n + 1 => by
    have h1 := lineP_len h n
    have h2 : (partB (fK i.op.toNat n) (fV i n)).length ≤ 23 := partB_len _ (by match n with | 0 => exact h.2.1 | 1 => exact h.2.2.1 | _ + 2 => exact h.2.2.2)
    show (lineP i n ++ _).length ≤ _
    rw [List.length_append]; omega
theorem fK_bound (k n : Nat) : 0 ≤ fK k n ∧ fK k n ≤ 5 := by match n with | 0 => exact kA_bound k | 1 => exact kB_bound k | _ + 2 => exact kC_bound k
set_option maxRecDepth 100000 in
set_option maxHeartbeats 4000000 in
theorem pr_line (i : Ins) (w : World) (h : PrAt w) (hi : i.ok) (hF : i.formed = true) : Calls Tryd.prog 33 #[i.v] w fun e w' => e = .returned (.string (str (lineB i))) ∧ Below w.heap.size w w' := by
  obtain ⟨⟨o0, o1⟩, -⟩ := formed_parts hF
  have HLL : Hid (∀ n, (str (lineP i n)).size ≤ 5 + 23 * n) := Lib.hid fun n => by rw [str_size]; exact lineP_len hi n
  have HSZ : Hid (∀ n, n < 3 → (str (Lib.itoa (fV i n))).size ≤ 100) := Lib.hid fun n hn => by
    rw [str_size]
    have : (Lib.itoa (fV i n)).length ≤ 21 := itoa_len (by match n with | 0 => exact hi.2.1 | 1 => exact hi.2.2.1 | _ + 2 => exact hi.2.2.2)
    omega
  have HVI : Hid (∀ n, I64 (fV i n)) := Lib.hid fun n => by match n with | 0 => exact hi.2.1 | 1 => exact hi.2.2.1 | _ + 2 => exact hi.2.2.2
  have HST : Hid (∀ n, n < 3 → fK i.op.toNat n ≠ 0 → str (lineP i n) ++ (str [32] ++ str (letB (fK i.op.toNat n)) ++ str (Lib.itoa (fV i n))) = str (lineP i (n + 1))) := Lib.hid fun n _ hk => by
    show _ = str (lineP i n ++ partB _ _)
    rw [str_add, str_add, str_add]
    unfold partB
    rw [if_neg hk]
  have HSK : Hid (∀ n, n < 3 → fK i.op.toNat n = 0 → str (lineP i n) = str (lineP i (n + 1))) := Lib.hid fun n _ hk => by
    show _ = str (lineP i n ++ partB _ _)
    unfold partB
    rw [if_pos hk, List.append_nil]
  have HL3 : Hid (str (lineB i) = str (lineP i 3)) := Lib.hid rfl
  have HL0 : Hid (str (lineP i 0) = opStr i.op.toNat) := Lib.hid rfl
  obtain ⟨op, a, b, imm⟩ := i
  simp only at o0 o1
  obtain ⟨k, rfl⟩ := Int.eq_ofNat_of_zero_le o0
  have hk : k < 12 := by omega
  obtain ⟨c1, c2, c3⟩ := h.forms.cells k hk
  have c0 := h.word k hk
  have HP := Lib.hid h
  obtain ⟨so, hso⟩ : ∃ s, opStr k = s := ⟨_, rfl⟩
  obtain ⟨K0, hK0⟩ : ∃ s, kA k = s := ⟨_, rfl⟩
  obtain ⟨K1, hK1⟩ : ∃ s, kB k = s := ⟨_, rfl⟩
  obtain ⟨K2, hK2⟩ : ∃ s, kC k = s := ⟨_, rfl⟩
  have HK0 : Hid (fK k 0 = K0) := Lib.hid hK0
  have HK1 : Hid (fK k 1 = K1) := Lib.hid hK1
  have HK2 : Hid (fK k 2 = K2) := Lib.hid hK2
  have HS0 : Hid (so = str (lineP ⟨(k : Int), a, b, imm⟩ 0)) := Lib.hid hso.symm
  rw [hso] at c0
  rw [hK0] at c1
  rw [hK1] at c2
  rw [hK2] at c3
  have hpos := h.forms.pos
  rw [HL3.out]
  clear hso hK0 hK1 hK2 h hF hi HL0 HL3
  rw [Int.toNat_natCast] at HST HSK
  go_enter Tryd.func33, Tryd.ntmps33
  go_upto_region 4 with fail
  have HW0 : Hid (Below w.heap.size w ((w.alloc (.cells #[.int .i64 (k : Int), .int .i64 a, .int .i64 b, .int .i64 imm] 50)).alloc (.cells #[.string so, .int .i64 K0, .int .i64 K1, .int .i64 K2] 90))) := Lib.hid (((Below.refl w.heap.size w).alloc (Nat.le_refl _) _).alloc (by simp) _)
  have hbx : Box ((w.alloc (.cells #[.int .i64 (k : Int), .int .i64 a, .int .i64 b, .int .i64 imm] 50)).alloc (.cells #[.string so, .int .i64 K0, .int .i64 K1, .int .i64 K2] 90)) (w.heap.size + 1) [.string so, .int .i64 K0, .int .i64 K1, .int .i64 K2] := Box.new (by simp)
  have HBX := Lib.hid hbx
  clear hbx
  generalize ((w.alloc (.cells #[.int .i64 (k : Int), .int .i64 a, .int .i64 b, .int .i64 imm] 50)).alloc (.cells #[.string so, .int .i64 K0, .int .i64 K1, .int .i64 K2] 90)) = W0 at HW0 HBX ⊢
  generalize w.heap.size + 1 = g3 at HBX ⊢
  go_wp2_with fail
  go_loopw [4, 20] (fun s c wr => ∃ n : Nat, n ≤ 3 ∧ c = .int .i64 (n : Int) ∧ (∃ t, s = .string t ∧ Hid (t = str (lineP ⟨(k : Int), a, b, imm⟩ n))) ∧ Hid (Below W0.heap.size W0 wr)) (fun _ c _ => 3 - (intOf c).toNat)
  case atStart => exact ⟨0, by omega, rfl, ⟨_, rfl, HS0⟩, Lib.hid (Below.refl _ _)⟩
  case round =>
    obtain ⟨n, hn, rfl, ⟨t, rfl, HT⟩, HB⟩ := hrel
    by_cases h3 : n < 3
    · have hbx := HBX.out.keep HB.out
      have y0 : wr.cell? ⟨g3, 0, none⟩ = some (.string so) := hbx.2.1 0
      have y1 : wr.cell? ⟨g3, 1, none⟩ = some (.int .i64 K0) := hbx.2.1 1
      have y2 : wr.cell? ⟨g3, 2, none⟩ = some (.int .i64 K1) := hbx.2.1 2
      have y3 : wr.cell? ⟨g3, 3, none⟩ = some (.int .i64 K2) := hbx.2.1 3
      have hts : t.size ≤ 100 := by rw [HT.out]; have := HLL.out n; omega
      clear hbx
      obtain rfl | rfl | rfl : n = 0 ∨ n = 1 ∨ n = 2 := by omega
      · by_cases hz : K0 = 0
        · subst hz
          go_wp2_with ((with_reducible show wpList _ _ _ (Oper.mk (some 23) (.index _ _ _) _ _ _ _ :: _) _ _); refine wp_ix3 rfl _ _ rfl a b imm 0 (by decide) rfl rfl ?_)
          go_roundw
          case rel => exact ⟨1, by omega, rfl, ⟨_, rfl, Lib.hid (HT.out.trans (HSK.out 0 (by omega) HK0.out))⟩, HB⟩
          case measure => simp [intOf]
        · have hkb := fK_bound k 0
          rw [HK0.out] at hkb
          have CL : Hid (∀ w1, Calls Tryd.prog 50 #[.int .i64 K0] w1 fun e w' => e = .returned (.string (str (letB K0))) ∧ w1 = w') := Lib.hid fun w1 => pr_letter K0 w1 hkb
          have CI : Hid (∀ w1, Below wr.heap.size wr w1 → Calls Tryd.prog 56 #[.int .i64 a] w1 fun e w' => e = .returned (.string (str (Lib.itoa a))) ∧ Below w1.heap.size w1 w') := Lib.hid fun w1 hb => lib_Itoa a w1 (((HP.out.grow HW0.out).grow HB.out).grow hb) (HVI.out 0)
          have HN := HST.out 0 (by omega) (by rw [HK0.out]; exact hz)
          rw [HK0.out, ← HT.out] at HN
          have hsl : (str (letB K0)).size ≤ 1 := by rw [str_size]; exact letB_len K0
          have hsi : (str (Lib.itoa a)).size ≤ 100 := HSZ.out 0 (by omega)
          have e0 : (K0 == 0) = false := by simpa using hz
          have d0 : decide (K0 = 0) = false := decide_eq_false hz
          obtain ⟨sl, hl⟩ : ∃ s, str (letB K0) = s := ⟨_, rfl⟩
          obtain ⟨si, hi⟩ : ∃ s, str (Lib.itoa a) = s := ⟨_, rfl⟩
          have HN' : Hid (t ++ (str [32] ++ sl ++ si) = str (lineP ⟨(k : Int), a, b, imm⟩ (0 + 1))) := Lib.hid (by rw [← hl, ← hi]; exact HN)
          rw [hl] at CL hsl
          rw [hi] at CI hsi
          clear HN hl hi hkb
          go_wp2_with (first
            | ((with_reducible show wpList _ _ _ (Oper.mk (some 23) (.index _ _ _) _ _ _ _ :: _) _ _); refine wp_ix3 rfl _ _ rfl a b imm 0 (by decide) rfl rfl ?_)
            | (go_at_call 50; (with_reducible refine (CL.out _).mono ?_); rintro e1 w1 ⟨rfl, rfl⟩)
            | (go_at_call 56; (with_reducible refine (CI.out _ (Below.refl _ _)).mono ?_); rintro e2 w2 ⟨rfl, hb2⟩))
          go_roundw
          case rel => exact ⟨1, by omega, rfl, ⟨_, rfl, HN'⟩, Lib.hid (below_then HB.out hb2)⟩
          case measure => simp [intOf]
      · by_cases hz : K1 = 0
        · subst hz
          go_wp2_with ((with_reducible show wpList _ _ _ (Oper.mk (some 23) (.index _ _ _) _ _ _ _ :: _) _ _); refine wp_ix3 rfl _ _ rfl a b imm 1 (by decide) rfl rfl ?_)
          go_roundw
          case rel => exact ⟨2, by omega, rfl, ⟨_, rfl, Lib.hid (HT.out.trans (HSK.out 1 (by omega) HK1.out))⟩, HB⟩
          case measure => simp [intOf]
        · have hkb := fK_bound k 1
          rw [HK1.out] at hkb
          have CL : Hid (∀ w1, Calls Tryd.prog 50 #[.int .i64 K1] w1 fun e w' => e = .returned (.string (str (letB K1))) ∧ w1 = w') := Lib.hid fun w1 => pr_letter K1 w1 hkb
          have CI : Hid (∀ w1, Below wr.heap.size wr w1 → Calls Tryd.prog 56 #[.int .i64 b] w1 fun e w' => e = .returned (.string (str (Lib.itoa b))) ∧ Below w1.heap.size w1 w') := Lib.hid fun w1 hb => lib_Itoa b w1 (((HP.out.grow HW0.out).grow HB.out).grow hb) (HVI.out 1)
          have HN := HST.out 1 (by omega) (by rw [HK1.out]; exact hz)
          rw [HK1.out, ← HT.out] at HN
          have hsl : (str (letB K1)).size ≤ 1 := by rw [str_size]; exact letB_len K1
          have hsi : (str (Lib.itoa b)).size ≤ 100 := HSZ.out 1 (by omega)
          have e0 : (K1 == 0) = false := by simpa using hz
          have d0 : decide (K1 = 0) = false := decide_eq_false hz
          obtain ⟨sl, hl⟩ : ∃ s, str (letB K1) = s := ⟨_, rfl⟩
          obtain ⟨si, hi⟩ : ∃ s, str (Lib.itoa b) = s := ⟨_, rfl⟩
          have HN' : Hid (t ++ (str [32] ++ sl ++ si) = str (lineP ⟨(k : Int), a, b, imm⟩ (1 + 1))) := Lib.hid (by rw [← hl, ← hi]; exact HN)
          rw [hl] at CL hsl
          rw [hi] at CI hsi
          clear HN hl hi hkb
          go_wp2_with (first
            | ((with_reducible show wpList _ _ _ (Oper.mk (some 23) (.index _ _ _) _ _ _ _ :: _) _ _); refine wp_ix3 rfl _ _ rfl a b imm 1 (by decide) rfl rfl ?_)
            | (go_at_call 50; (with_reducible refine (CL.out _).mono ?_); rintro e1 w1 ⟨rfl, rfl⟩)
            | (go_at_call 56; (with_reducible refine (CI.out _ (Below.refl _ _)).mono ?_); rintro e2 w2 ⟨rfl, hb2⟩))
          go_roundw
          case rel => exact ⟨2, by omega, rfl, ⟨_, rfl, HN'⟩, Lib.hid (below_then HB.out hb2)⟩
          case measure => simp [intOf]
      · by_cases hz : K2 = 0
        · subst hz
          go_wp2_with ((with_reducible show wpList _ _ _ (Oper.mk (some 23) (.index _ _ _) _ _ _ _ :: _) _ _); refine wp_ix3 rfl _ _ rfl a b imm 2 (by decide) rfl rfl ?_)
          go_roundw
          case rel => exact ⟨3, by omega, rfl, ⟨_, rfl, Lib.hid (HT.out.trans (HSK.out 2 (by omega) HK2.out))⟩, HB⟩
          case measure => simp [intOf]
        · have hkb := fK_bound k 2
          rw [HK2.out] at hkb
          have CL : Hid (∀ w1, Calls Tryd.prog 50 #[.int .i64 K2] w1 fun e w' => e = .returned (.string (str (letB K2))) ∧ w1 = w') := Lib.hid fun w1 => pr_letter K2 w1 hkb
          have CI : Hid (∀ w1, Below wr.heap.size wr w1 → Calls Tryd.prog 56 #[.int .i64 imm] w1 fun e w' => e = .returned (.string (str (Lib.itoa imm))) ∧ Below w1.heap.size w1 w') := Lib.hid fun w1 hb => lib_Itoa imm w1 (((HP.out.grow HW0.out).grow HB.out).grow hb) (HVI.out 2)
          have HN := HST.out 2 (by omega) (by rw [HK2.out]; exact hz)
          rw [HK2.out, ← HT.out] at HN
          have hsl : (str (letB K2)).size ≤ 1 := by rw [str_size]; exact letB_len K2
          have hsi : (str (Lib.itoa imm)).size ≤ 100 := HSZ.out 2 (by omega)
          have e0 : (K2 == 0) = false := by simpa using hz
          have d0 : decide (K2 = 0) = false := decide_eq_false hz
          obtain ⟨sl, hl⟩ : ∃ s, str (letB K2) = s := ⟨_, rfl⟩
          obtain ⟨si, hi⟩ : ∃ s, str (Lib.itoa imm) = s := ⟨_, rfl⟩
          have HN' : Hid (t ++ (str [32] ++ sl ++ si) = str (lineP ⟨(k : Int), a, b, imm⟩ (2 + 1))) := Lib.hid (by rw [← hl, ← hi]; exact HN)
          rw [hl] at CL hsl
          rw [hi] at CI hsi
          clear HN hl hi hkb
          go_wp2_with (first
            | ((with_reducible show wpList _ _ _ (Oper.mk (some 23) (.index _ _ _) _ _ _ _ :: _) _ _); refine wp_ix3 rfl _ _ rfl a b imm 2 (by decide) rfl rfl ?_)
            | (go_at_call 50; (with_reducible refine (CL.out _).mono ?_); rintro e1 w1 ⟨rfl, rfl⟩)
            | (go_at_call 56; (with_reducible refine (CI.out _ (Below.refl _ _)).mono ?_); rintro e2 w2 ⟨rfl, hb2⟩))
          go_roundw
          case rel => exact ⟨3, by omega, rfl, ⟨_, rfl, HN'⟩, Lib.hid (below_then HB.out hb2)⟩
          case measure => simp [intOf]
    · obtain rfl : n = 3 := by omega
      go_wp2_with fail
      go_ret
      exact ⟨congrArg (fun x => Ending.returned (.string x)) HT.out, below_then HW0.out HB.out⟩
end Go.Proofs.YtpdpcgeeneajjaaDoor
end
section
namespace Go.Proofs.YtpdpcgeeneajjaaDoor
open Go.RowKit
def StrsAt (w : World) (A : Option Addr) (l : List (List UInt8)) : Prop :=
  ∀ k x, l[k]? = some x → ∃ ad : Addr, A = some ad ∧ w.cell? (ad.add k) = some (.string (str x)) ∧ ad.block < w.heap.size
theorem StrsAt.grow {w w' : World} {A : Option Addr} {l : List (List UInt8)} (h : StrsAt w A l) (hb : Below w.heap.size w w') : StrsAt w' A l := fun k x hk => by
  obtain ⟨ad, e, h1, h2⟩ := h k x hk
  exact ⟨ad, e, (hb.cell (p := ad.add k) (by rw [block_add]; exact h2)).trans h1, Nat.lt_of_lt_of_le h2 hb.size⟩
theorem StrsAt.dropL {w : World} {B : Option Addr} {l : List (List UInt8)} {c k : Nat} (h : StrsAt w B l) (hc : l.length ≤ c) : StrsAt w (if c = k then B else B.map (fun x => x.add k)) (l.drop k) := fun j v hj => by
  rw [List.getElem?_drop] at hj
  obtain ⟨ad, e, h1, h2⟩ := h (k + j) v hj
  have hlt : k + j < l.length := (List.getElem?_eq_some_iff.1 hj).1
  rw [if_neg (by omega), e]
  exact ⟨ad.add k, rfl, by rw [add_add]; exact h1, by rw [block_add]; exact h2⟩
theorem StrsAt.takeL {w : World} {B : Option Addr} {l : List (List UInt8)} (h : StrsAt w B l) (k : Nat) : StrsAt w B (l.take k) := fun j v hj => by
  rw [List.getElem?_take] at hj
  split at hj
  · exact h j v hj
  · cases hj
theorem StrsAt.tailL {w : World} {B : Option Addr} {l : List (List UInt8)} {c : Nat} (h : StrsAt w B l) (hc : l.length ≤ c) : StrsAt w (if c = 1 then B else B.map (fun x => x.add 1)) l.tail := by
  rw [← List.drop_one]; exact h.dropL hc
def OwnS (base : Nat) (w : World) (v : Value) (l : List (List UInt8)) : Prop := w.ownsRow base 9 1 v l.length (l.map fun x => Value.string (str x))
theorem OwnS.nil {base : Nat} {w : World} : OwnS base w (.slice none 0 0) [] := World.ownsRow_nil _ _ _ _
theorem OwnS.grow {base : Nat} {w w' : World} {v : Value} {l : List (List UInt8)} (h : OwnS base w v l) (hb : Below w.heap.size w w') : OwnS base w' v l := own_grow h hb
theorem info_str : (Tryd.prog.info? 9).map (fun i => (i.zero, i.size, i.bytes)) = some (some (.string ⟨#[]⟩), 1, 16) := by kernel_rfl
theorem zero_add_at (g k : Nat) : (⟨g, 0, none⟩ : Addr).add k = ⟨g, k, none⟩ := by
  unfold Addr.add
  split
  · simp_all
  · simp
theorem OwnS.form {base : Nat} {w : World} {v : Value} {l : List (List UInt8)} (h : OwnS base w v l) : ∃ A c, v = .slice A l.length c ∧ l.length ≤ c ∧ StrsAt w A l := by
  obtain ⟨A, c, rfl, hc⟩ := own_form h
  refine ⟨A, c, rfl, hc, fun k x hk => ?_⟩
  obtain ⟨g, e0, hg, d0⟩ := own_cells h (k := k) (v := .string (str x)) (by rw [List.getElem?_map, hk]; rfl)
  exact ⟨⟨g, 0, none⟩, e0, by rw [zero_add_at]; exact d0, hg⟩
theorem app_str {ops : Array Oper} {rest : List Oper} {o : Oper} {a : Act} {Q : Exit → Act → World → Prop} (W : World) (hgd : o.guard = none) (s x : Operand)
    (ho : o.op = .call { callee := .builtin .append, args := #[s, x], argTypes := #[61, 61] }) (base : Nat) {v : Value} {l : List (List UInt8)} {y : List UInt8} (hown : OwnS base W v l) (hs : a.eval s = v)
    (hx : a.eval x = .slice (some ⟨W.heap.size, 0, none⟩) 1 1) (hn : l.length < 100000000) (hbase : base ≤ W.heap.size)
    (h : ∀ v' w', OwnS base w' v' (l ++ [y]) → Below base W w' → wpList Tryd.prog ops Q rest (a.put o.dst v') w') :
    wpList Tryd.prog ops Q (o :: rest) a (W.alloc (.cells #[.string (str y)] 9)) := by
  obtain ⟨i0, hi, hz0, hz1, hz2⟩ := info_parts info_str
  refine wpList_app1 W hgd s x 61 ho base 9 i0 (.string ⟨#[]⟩) 16 Tryd.underlying61 hi hz0 hz1 hz2 rfl (by decide) hown hs hx rfl hn hbase fun v' w' h1 h2 => h v' w' ?_ h2
  unfold OwnS
  rw [List.length_append, List.map_append]
  exact h1
set_option maxRecDepth 100000
theorem str_cut (l : List UInt8) (i j : Nat) : (str l).extract i j = str ((l.drop i).take (j - i)) := by
  refine str_eq ?_
  rw [ByteArray.data_extract, Array.toList_extract]
  rfl
theorem wp_ixS {ops : Array Oper} {rest : List Oper} {o : Oper} {a : Act} {Q : Exit → Act → World → Prop} {w : World} (hgd : o.guard = none) (x y : Operand) (ho : o.op = .index 9 x y) (l : List UInt8) (n : Nat) (b : UInt8) (hb : l[n]? = some b) (hx : a.eval x = .string (str l)) (hy : a.eval y = .int .i64 (n : Int))
    (h : wpList Tryd.prog ops Q rest (a.put o.dst (.int .u8 (b.toNat : Int))) w) : wpList Tryd.prog ops Q (o :: rest) a w := by
  refine wpList_plain hgd fun _ hK => ?_
  have hlt : n < l.length := (List.getElem?_eq_some_iff.1 hb).1
  have hg : (Instr.index 9 (.string (str l)) (.int .i64 (n : Int))).run Tryd.prog w = .ok (.int .u8 (b.toNat : Int)) w := by
    rw [run_index_string w 9 (str l) .i64 n Tryd.underlying9, dif_pos ⟨by omega, by rw [str_size]; omega⟩]
    have e : ∀ h : ((n : Int)).toNat < (str l).size, (str l)[((n : Int)).toNat]'h = b := fun h => by
      have h2 : l[n]'hlt = b := by rw [List.getElem?_eq_getElem hlt] at hb; injection hb
      exact h2
    rw [e]
  unfold Oper.wp execOp
  simp only [ho, hx, hy, Sem.run_bind, Sem.run_pure, Result.andThen_ok, hg]
  exact hK _ _ h
theorem wp_slS {ops : Array Oper} {rest : List Oper} {o : Oper} {a : Act} {Q : Exit → Act → World → Prop} {w : World} (hgd : o.guard = none) (x y z : Operand) (ho : o.op = .slice 9 x (some y) (some z) none) (l : List UInt8) (i j : Nat) (hi : i ≤ j) (hj : j ≤ l.length) (hx : a.eval x = .string (str l)) (hy : a.eval y = .int .i64 (i : Int)) (hz : a.eval z = .int .i64 (j : Int))
    (h : wpList Tryd.prog ops Q rest (a.put o.dst (.string (str ((l.drop i).take (j - i))))) w) : wpList Tryd.prog ops Q (o :: rest) a w := by
  refine wpList_plain hgd fun _ hK => ?_
  have hg : (Instr.slice 9 (.string (str l)) (some (.int .i64 (i : Int))) (some (.int .i64 (j : Int))) none).run Tryd.prog w = .ok (.string (str ((l.drop i).take (j - i)))) w := by
    rw [run_slice_string_if w 9 (str l) .i64 .i64 i j Tryd.underlying9, if_pos ⟨by omega, by rw [str_size]; omega⟩, if_pos ⟨by omega, by omega⟩]
    simp only [Int.toNat_natCast]
    rw [str_cut]
  unfold Oper.wp execOp
  simp only [ho, hx, hy, hz, Option.map_some, Option.map_none, Sem.run_bind, Sem.run_pure, Result.andThen_ok, run_sliceAt_string _ _ _ _ _ _ Tryd.underlying9, hg]
  exact hK _ _ h
theorem wp_slF {ops : Array Oper} {rest : List Oper} {o : Oper} {a : Act} {Q : Exit → Act → World → Prop} {w : World} (hgd : o.guard = none) (x y : Operand) (ho : o.op = .slice 9 x (some y) none none) (l : List UInt8) (i : Nat) (hi : i ≤ l.length) (hx : a.eval x = .string (str l)) (hy : a.eval y = .int .i64 (i : Int))
    (h : wpList Tryd.prog ops Q rest (a.put o.dst (.string (str (l.drop i)))) w) : wpList Tryd.prog ops Q (o :: rest) a w := by
  refine wpList_plain hgd fun _ hK => ?_
  have hg : (Instr.slice 9 (.string (str l)) (some (.int .i64 (i : Int))) none none).run Tryd.prog w = .ok (.string (str (l.drop i))) w := by
    rw [run_slice_string_from_if w 9 (str l) .i64 i Tryd.underlying9, if_pos ⟨by omega, by rw [str_size]; omega⟩]
    simp only [Int.toNat_natCast]
    rw [str_cut, str_size, List.take_of_length_le (by rw [List.length_drop]; omega)]
  unfold Oper.wp execOp
  simp only [ho, hx, hy, Option.map_some, Option.map_none, Sem.run_bind, Sem.run_pure, Result.andThen_ok, run_sliceAt_string _ _ _ _ _ _ Tryd.underlying9, hg]
  exact hK _ _ h
structure RdAt (w : World) : Prop where
  pr : PrAt w
  len : ∃ m, w.cell? ⟨1, 0, none⟩ = some (.int .i64 m)
  syn : ∃ te pe, w.cell? ⟨2, 0, none⟩ = some (.iface te pe)
  rng : ∃ te pe, w.cell? ⟨3, 0, none⟩ = some (.iface te pe)
theorem lt_of_cell {w : World} {a : Addr} {v : Value} (h : w.cell? a = some v) : a.block < w.heap.size := Lib.lt_of_cell h
theorem RdAt.grow {w w' : World} (h : RdAt w) (hb : Below w.heap.size w w') : RdAt w' := by
  obtain ⟨h1, ⟨m, h2⟩, ⟨a, b, h3⟩, c, d, h4⟩ := h
  exact ⟨h1.grow hb, ⟨m, (hb.cell (lt_of_cell h2)).trans h2⟩, ⟨a, b, (hb.cell (lt_of_cell h3)).trans h3⟩, c, d, (hb.cell (lt_of_cell h4)).trans h4⟩
theorem lib_Split (l : List UInt8) (c : UInt8) (w : World) (h : RdAt w) (hs : l.length ≤ 1000000) : Calls Tryd.prog 24 #[.string (str l), .string ⟨#[c]⟩] w fun e w' => ∃ A, e = .returned (.slice A (splF c l).length (splF c l).length) ∧ StrsAt w' A (splF c l) ∧ Below w.heap.size w w' := by
  obtain ⟨m, hm⟩ := h.len
  have hk : Lib.countB (str l) ⟨#[c]⟩ = l.count c := Lib.count_one c l
  refine (Tryd.strings_Split (str l) ⟨#[c]⟩ m w (by rw [str_size]; omega) hm (by show 1 ≤ 1; omega)).mono fun e w' ⟨h1, h2⟩ => ?_
  have e1 : Lib.splitB ⟨#[c]⟩ 0 (l.count c) (str l) = (splF c l).map str := spl_lib c (str l) _ (Nat.le_refl _)
  rw [hk, e1] at h2
  rw [hk] at h1
  refine ⟨some ⟨w.heap.size, 0, none⟩, by rw [h1, splF_length], fun k x hk => ⟨⟨w.heap.size, 0, none⟩, rfl, ?_, ?_⟩, h2 ▸ (Below.refl _ _).alloc (Nat.le_refl _) _⟩
  · subst h2
    rw [zero_add_at, World.cell?_alloc_new]
    simp [hk]
  · subst h2; simp
end Go.Proofs.YtpdpcgeeneajjaaDoor
end
section
namespace Go.Proofs.YtpdpcgeeneajjaaDoor
open Go.RowKit
def joinB (L : List (Int × Int)) : List UInt8 := L.flatMap fun x => partB x.1 x.2
def pieceB (L : List (Int × Int)) : List (List UInt8) := (L.filter fun x => x.1 != 0).map fun x => letB x.1 ++ Lib.itoa x.2
theorem no32_part (k v : Int) : ∀ b ∈ letB k ++ Lib.itoa v, b ≠ 32 := fun b hb e => by
  subst e
  rcases List.mem_append.1 hb with h | h
  · unfold letB at h
    split at h
    · simp at h
    · split at h
      · simp at h
      · split at h <;> simp at h
  · rcases itoa_mem h with h | h
    · exact absurd h (by decide)
    · exact absurd h.1 (by decide)
theorem spl_join : ∀ (L : List (Int × Int)) (w : List UInt8), (∀ b ∈ w, b ≠ 32) → splF 32 (w ++ joinB L) = w :: pieceB L
  | [], w, h => by
    show splF 32 (w ++ []) = [w]
    rw [List.append_nil, splF_plain h]
  | (k, v) :: L, w, h => by
    by_cases hk : k = 0
    · subst hk
      show splF 32 (w ++ (partB 0 v ++ joinB L)) = w :: pieceB ((0, v) :: L)
      have e : pieceB ((0, v) :: L) = pieceB L := by unfold pieceB; rw [List.filter_cons_of_neg (by simp)]
      rw [e, show partB 0 v = [] from rfl, List.nil_append]
      exact spl_join L w h
    · show splF 32 (w ++ (partB k v ++ joinB L)) = w :: pieceB ((k, v) :: L)
      have e : pieceB ((k, v) :: L) = (letB k ++ Lib.itoa v) :: pieceB L := by unfold pieceB; rw [List.filter_cons_of_pos (by simpa using hk)]; rfl
      have e2 : partB k v ++ joinB L = 32 :: ((letB k ++ Lib.itoa v) ++ joinB L) := by
        unfold partB
        rw [if_neg hk]
        simp
      rw [e, e2, splF_part h, spl_join L _ (no32_part k v)]
def fieldsB (i : Ins) : List (Int × Int) := [(kA i.op.toNat, i.a), (kB i.op.toNat, i.b), (kC i.op.toNat, i.imm)]
theorem lineB_join (i : Ins) : lineB i = (opStr i.op.toNat).data.toList ++ joinB (fieldsB i) := by
  unfold lineB joinB fieldsB
  simp
theorem opStr_no32 (k : Nat) : ∀ b ∈ (opStr k).data.toList, b ≠ 32 := by unfold opStr; split <;> decide
theorem spl_line (i : Ins) : splF 32 (lineB i) = (opStr i.op.toNat).data.toList :: pieceB (fieldsB i) := by rw [lineB_join, spl_join _ _ (opStr_no32 _)]
def opOf (w : List UInt8) : Option Nat := (List.range 12).find? fun k => (opStr k).data.toList == w
theorem opOf_op {k : Nat} (hk : k < 12) : opOf (opStr k).data.toList = some k := by
  match k, hk with
  | 0, _ | 1, _ | 2, _ | 3, _ | 4, _ | 5, _ | 6, _ | 7, _ | 8, _ | 9, _ | 10, _ | 11, _ => decide
theorem opOf_some {w : List UInt8} {k : Nat} (h : opOf w = some k) : k < 12 ∧ (opStr k).data.toList = w := by
  unfold opOf at h
  have h1 := List.find?_some h
  have h2 := List.mem_of_find?_eq_some h
  exact ⟨List.mem_range.1 h2, by simpa using h1⟩
def fieldR (kind : Int) (rest : List (List UInt8)) : Int × List (List UInt8) :=
  if kind = 0 then (0, rest) else match rest with
    | [] => (0, [])
    | t :: r => (numV (if kind ≠ 4 ∧ 0 < t.length then t.drop 1 else t), r)
def coefR (kind : Int) (rest : List (List UInt8)) : Int := if kind = 5 then (match rest with | [] => 0 | t :: _ => numV t) else 0
def insR (k : Nat) (rest : List (List UInt8)) : Ins := ⟨k, (fieldR (kA k) rest).1, (fieldR (kB k) (fieldR (kA k) rest).2).1, coefR (kC k) (fieldR (kB k) (fieldR (kA k) rest).2).2⟩
def goodB (s : List UInt8) (i : Ins) : Bool := i.formed && (str (lineB i) == str s)
def instrF (s : List UInt8) : Option Ins := match opOf ((splF 32 s).headD []) with
  | none => none
  | some k => if i : goodB s (insR k (splF 32 s).tail) = true then some (insR k (splF 32 s).tail) else none
def fieldP (kind : Int) (rest : List (List UInt8)) : Option (Int × List (List UInt8)) :=
  if kind = 0 then some (0, rest) else match rest with
    | [] => none
    | t :: r => match Lib.atoiAll (Lib.trimPrefix t (letB kind)) with
      | .ok v => some (v, r)
      | _ => none
def insP (k : Nat) (rest : List (List UInt8)) : Option Ins := match fieldP (kA k) rest with
  | none => none
  | some (a, r1) => match fieldP (kB k) r1 with
    | none => none
    | some (b, r2) => match fieldP (kC k) r2 with
      | none => none
      | some (c, _) => some ⟨k, a, b, c⟩
def readF (s : List UInt8) : Option Ins := match opOf ((splF 32 s).headD []) with
  | none => none
  | some k => match insP k (splF 32 s).tail with
    | none => none
    | some i => if goodB s i = true then some i else none
theorem str_inj {a b : List UInt8} (h : str a = str b) : a = b := by
  have := congrArg (fun s : ByteArray => s.data.toList) h
  exact this
theorem good_iff {s : List UInt8} {i : Ins} : goodB s i = true ↔ i.formed = true ∧ lineB i = s := by
  unfold goodB
  rw [Bool.and_eq_true]
  refine ⟨fun h => ⟨h.1, ?_⟩, fun h => ⟨h.1, ?_⟩⟩
  · have h2 : ((str (lineB i)).data == (str s).data) = true := h.2
    have h3 : (str (lineB i)).data = (str s).data := by simpa using h2
    exact str_inj (ByteArray.ext h3)
  · rw [h.2]
    show ((str s).data == (str s).data) = true
    simp
theorem kA_or (k : Nat) : kA k = 0 ∨ kA k = 1 ∨ kA k = 2 ∨ kA k = 3 := by unfold kA; split <;> simp
theorem kB_or (k : Nat) : kB k = 0 ∨ kB k = 1 ∨ kB k = 2 ∨ kB k = 4 := by unfold kB; split <;> simp
theorem fieldR_part {k v : Int} (hk : k = 0 ∨ k = 1 ∨ k = 2 ∨ k = 3 ∨ k = 4) (h0 : -100000000 < v) (h1 : v < 100000000) (hz : k = 0 → v = 0) (L : List (Int × Int)) : fieldR k (pieceB ((k, v) :: L)) = (v, pieceB L) := by
  by_cases h : k = 0
  · subst h
    rw [hz rfl]
    have e : pieceB ((0, 0) :: L) = pieceB L := by unfold pieceB; rw [List.filter_cons_of_neg (by decide)]
    unfold fieldR
    rw [if_pos rfl, e]
  · have e : pieceB ((k, v) :: L) = (letB k ++ Lib.itoa v) :: pieceB L := by unfold pieceB; rw [List.filter_cons_of_pos (by simpa using h)]; rfl
    unfold fieldR
    rw [if_neg h, e]
    have hn : numV (Lib.itoa v) = v := by unfold numV; rw [num_itoa h0 h1]; rfl
    show (numV (if k ≠ 4 ∧ 0 < (letB k ++ Lib.itoa v).length then (letB k ++ Lib.itoa v).drop 1 else letB k ++ Lib.itoa v), pieceB L) = _
    rcases hk with rfl | rfl | rfl | rfl | rfl
    · exact absurd rfl h
    · rw [if_pos ⟨by decide, by show 0 < ([114] ++ Lib.itoa v).length; simp⟩]
      show (numV (Lib.itoa v), _) = _
      rw [hn]
    · rw [if_pos ⟨by decide, by show 0 < ([109] ++ Lib.itoa v).length; simp⟩]
      show (numV (Lib.itoa v), _) = _
      rw [hn]
    · rw [if_pos ⟨by decide, by show 0 < ([99] ++ Lib.itoa v).length; simp⟩]
      show (numV (Lib.itoa v), _) = _
      rw [hn]
    · rw [if_neg (by simp)]
      show (numV (Lib.itoa v), _) = _
      rw [hn]
theorem fieldP_part {k v : Int} (hk : 0 ≤ k ∧ k ≤ 5) (h0 : -100000000 < v) (h1 : v < 100000000) (hz : k = 0 → v = 0) (L : List (Int × Int)) : fieldP k (pieceB ((k, v) :: L)) = some (v, pieceB L) := by
  by_cases h : k = 0
  · subst h
    rw [hz rfl]
    have e : pieceB ((0, 0) :: L) = pieceB L := by unfold pieceB; rw [List.filter_cons_of_neg (by decide)]
    unfold fieldP
    rw [if_pos rfl, e]
  · have e : pieceB ((k, v) :: L) = (letB k ++ Lib.itoa v) :: pieceB L := by unfold pieceB; rw [List.filter_cons_of_pos (by simpa using h)]; rfl
    have ht : Lib.trimPrefix (letB k ++ Lib.itoa v) (letB k) = Lib.itoa v := by
      have hp : Lib.hasPrefix (letB k ++ Lib.itoa v) (letB k) = true := by
        unfold Lib.hasPrefix
        exact List.isPrefixOf_iff_prefix.2 ⟨_, rfl⟩
      unfold Lib.trimPrefix
      rw [if_pos hp, List.drop_left]
    unfold fieldP
    rw [if_neg h, e]
    show (match Lib.atoiAll (Lib.trimPrefix (letB k ++ Lib.itoa v) (letB k)) with | .ok v => some (v, pieceB L) | _ => none) = _
    rw [ht, atoi_itoa h0 h1]
theorem fits_zero {v : Int} (h : fitsK 0 v = true) : v = 0 := by simpa [fitsK] using h
theorem formed_fits {i : Ins} (h : i.formed = true) : fitsK (kA i.op.toNat) i.a = true ∧ fitsK (kB i.op.toNat) i.b = true ∧ fitsK (kC i.op.toNat) i.imm = true := by
  unfold Ins.formed at h
  rw [Bool.and_eq_true, Bool.and_eq_true, Bool.and_eq_true] at h
  exact ⟨h.1.1.2, h.1.2, h.2⟩
theorem insR_line {i : Ins} (h : i.formed = true) : insR i.op.toNat (pieceB (fieldsB i)) = i := by
  obtain ⟨⟨o0, o1⟩, ⟨a0, a1⟩, ⟨b0, b1⟩, m0, m1⟩ := formed_parts h
  obtain ⟨f1, f2, f3⟩ := formed_fits h
  have hA := fieldR_part (k := kA i.op.toNat) (v := i.a) (by rcases kA_or i.op.toNat with h | h | h | h <;> omega) (by omega) (by omega) (fun e => by rw [e] at f1; exact fits_zero f1) [(kB i.op.toNat, i.b), (kC i.op.toNat, i.imm)]
  have hB := fieldR_part (k := kB i.op.toNat) (v := i.b) (by rcases kB_or i.op.toNat with h | h | h | h <;> omega) (by omega) (by omega) (fun e => by rw [e] at f2; exact fits_zero f2) [(kC i.op.toNat, i.imm)]
  unfold insR fieldsB
  rw [hA, hB]
  have hC : coefR (kC i.op.toNat) (pieceB [(kC i.op.toNat, i.imm)]) = i.imm := by
    unfold coefR
    rcases kC_or' i.op.toNat with hc | hc
    · rw [hc, if_pos rfl]
      show numV (letB 5 ++ Lib.itoa i.imm) = _
      show numV (Lib.itoa i.imm) = _
      unfold numV
      rw [num_itoa (by omega) (by omega)]; rfl
    · rw [hc] at f3 ⊢
      rw [if_neg (by decide), fits_zero f3]
  rw [hC]
  obtain ⟨op, a, b, imm⟩ := i
  simp only at o0 ⊢
  rw [Int.toNat_of_nonneg o0]
where
  kC_or' (k : Nat) : kC k = 5 ∨ kC k = 0 := by unfold kC; split <;> decide
theorem insP_line {i : Ins} (h : i.formed = true) : insP i.op.toNat (pieceB (fieldsB i)) = some i := by
  obtain ⟨⟨o0, o1⟩, ⟨a0, a1⟩, ⟨b0, b1⟩, m0, m1⟩ := formed_parts h
  obtain ⟨f1, f2, f3⟩ := formed_fits h
  have hA := fieldP_part (k := kA i.op.toNat) (v := i.a) (kA_bound _) (by omega) (by omega) (fun e => by rw [e] at f1; exact fits_zero f1) [(kB i.op.toNat, i.b), (kC i.op.toNat, i.imm)]
  have hB := fieldP_part (k := kB i.op.toNat) (v := i.b) (kB_bound _) (by omega) (by omega) (fun e => by rw [e] at f2; exact fits_zero f2) [(kC i.op.toNat, i.imm)]
  have hC := fieldP_part (k := kC i.op.toNat) (v := i.imm) (kC_bound _) (by omega) (by omega) (fun e => by rw [e] at f3; exact fits_zero f3) []
  unfold insP fieldsB
  rw [hA]
  simp only
  rw [hB]
  simp only
  rw [hC]
  simp only
  obtain ⟨op, a, b, imm⟩ := i
  simp only at o0 ⊢
  rw [Int.toNat_of_nonneg o0]
theorem instr_line {i : Ins} (h : i.formed = true) : instrF (lineB i) = some i := by
  have ho := (formed_parts h).1
  unfold instrF
  rw [spl_line]
  simp only [List.headD_cons, List.tail_cons, opOf_op (k := i.op.toNat) (by omega), insR_line h]
  rw [dif_pos (good_iff.2 ⟨h, rfl⟩)]
theorem read_line {i : Ins} (h : i.formed = true) : readF (lineB i) = some i := by
  have ho := (formed_parts h).1
  unfold readF
  rw [spl_line]
  simp only [List.headD_cons, List.tail_cons, opOf_op (k := i.op.toNat) (by omega), insP_line h]
  rw [if_pos (good_iff.2 ⟨h, rfl⟩)]
theorem instr_some {s : List UInt8} {i : Ins} (h : instrF s = some i) : i.formed = true ∧ lineB i = s := by
  unfold instrF at h
  split at h
  · cases h
  · split at h
    · rename_i hg
      injection h with h
      subst h
      exact good_iff.1 hg
    · cases h
theorem read_some {s : List UInt8} {i : Ins} (h : readF s = some i) : i.formed = true ∧ lineB i = s := by
  unfold readF at h
  split at h
  · cases h
  · split at h
    · cases h
    · split at h
      · rename_i hg
        injection h with h
        subst h
        exact good_iff.1 hg
      · cases h
theorem read_instr (s : List UInt8) : readF s = instrF s := by
  cases h : instrF s with
  | some i =>
    obtain ⟨h1, h2⟩ := instr_some h
    rw [← h2, read_line h1]
  | none =>
    cases h' : readF s with
    | none => rfl
    | some i =>
      obtain ⟨h1, h2⟩ := read_some h'
      rw [← h2, instr_line h1] at h
      cases h
def linesF : List (List UInt8) → List Ins × Nat
  | [] => ([], 0)
  | s :: r => match instrF s with
    | none => ([], 0)
    | some i => (i :: (linesF r).1, (linesF r).2 + 1)
def parseL (L : List (List UInt8)) (last : List UInt8) : List Ins × Int × Int :=
  if 512 < L.length ∨ (last ≠ [] ∧ L.length = 512) then ([], 0, 5)
  else if (linesF L).2 < L.length then ([], ((linesF L).2 : Int) + 1, 21)
  else if last ≠ [] then ([], (L.length : Int) + 1, 21)
  else ((linesF L).1, 0, 0)
def parseF (t : List UInt8) : List Ins × Int × Int := parseL (splF 10 t).dropLast ((splF 10 t).getLastD [])
theorem linesF_cons {s : List UInt8} {i : Ins} (h : instrF s = some i) (r : List (List UInt8)) : linesF (s :: r) = (i :: (linesF r).1, (linesF r).2 + 1) := by
  show (match instrF s with | none => ([], 0) | some i => (i :: (linesF r).1, (linesF r).2 + 1)) = _
  rw [h]
theorem linesF_stop {s : List UInt8} (h : instrF s = none) (r : List (List UInt8)) : linesF (s :: r) = ([], 0) := by
  show (match instrF s with | none => ([], 0) | some i => (i :: (linesF r).1, (linesF r).2 + 1)) = _
  rw [h]
theorem linesF_le : ∀ L, (linesF L).2 ≤ L.length ∧ (linesF L).1.length = (linesF L).2
  | [] => ⟨Nat.le_refl _, rfl⟩
  | s :: r => by
    obtain ⟨h1, h2⟩ := linesF_le r
    unfold linesF
    split
    · exact ⟨Nat.zero_le _, rfl⟩
    · exact ⟨by simp only [List.length_cons]; omega, by simp only [List.length_cons]; omega⟩
end Go.Proofs.YtpdpcgeeneajjaaDoor
end
