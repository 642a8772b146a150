/- Several texts in one: L2 L3 L4. -/
import Derived.Test.YtgdccmmcjicgkaaDoorkE5toL1
import Derived.Lib.AppendIntMem
import Derived.Lib.SmallJoins
import Derived.Lib.LaidTab
set_option linter.unusedVariables false
set_option linter.unusedSimpArgs false
section
namespace Go.Proofs.YtgdccmmcjicgkaaDoor
open Go.RowKit
theorem kA_le (k : Nat) : 0 ≤ kA k ∧ kA k ≤ 4 := by unfold kA; split <;> decide
theorem kB_le (k : Nat) : 0 ≤ kB k ∧ kB k ≤ 4 := by unfold kB; split <;> decide
theorem kC_or (k : Nat) : kC k = 5 ∨ kC k = 0 := by unfold kC; split <;> decide
theorem opStr_str (k : Nat) : opStr k = str (opStr k).data.toList := str_eq rfl
set_option maxRecDepth 100000 in
set_option maxHeartbeats 4000000 in
theorem r38_Line (i : Ins) (w : World) (hF : i.formed = true) : Calls Tryd.prog 53 #[i.v] w fun e w' => e = .returned (.string (str (lineB i))) ∧ Below w.heap.size w w' := by
  obtain ⟨⟨o0, o1⟩, ⟨a0, a1⟩, ⟨b0, b1⟩, m0, m1⟩ := formed_parts hF
  obtain ⟨op, a, b, imm⟩ := i
  simp only at o0 o1 a0 a1 b0 b1 m0 m1
  obtain ⟨k, rfl⟩ := Int.eq_ofNat_of_zero_le o0
  obtain ⟨C, hC⟩ : ∃ c, (kC k == 5) = c := ⟨_, rfl⟩
  have CF : Hid (∀ w1, Calls Tryd.prog 88 #[.int .i64 (k : Int)] w1 fun e w' => e = .returned (.tuple #[.string (opStr k), .int .i64 (kA k), .int .i64 (kB k), .bool C]) ∧ w1 = w') := Lib.hid fun w1 => by
    have h := r38_form (k : Int) w1
    unfold formR at h
    rw [if_pos ⟨o0, o1⟩, Int.toNat_natCast, hC] at h
    exact h
  have CA : Hid (∀ w1, Calls Tryd.prog 89 #[.int .i64 (kA k), .int .i64 a] w1 fun e w' => e = .returned (.string (str (partB (kA k) a))) ∧ Below w1.heap.size w1 w') := Lib.hid fun w1 => r38_part (kA k) a w1 (kA_le k) (by omega) (by omega)
  have CB : Hid (∀ w1, Calls Tryd.prog 89 #[.int .i64 (kB k), .int .i64 b] w1 fun e w' => e = .returned (.string (str (partB (kB k) b))) ∧ Below w1.heap.size w1 w') := Lib.hid fun w1 => r38_part (kB k) b w1 (kB_le k) (by omega) (by omega)
  have CD : Hid (∀ w1, Calls Tryd.prog 90 #[.int .i64 imm] w1 fun e w' => e = .returned (.string (str (Lib.itoa imm))) ∧ Below w1.heap.size w1 w') := Lib.hid fun w1 => r38_Decimal imm w1 (by omega) (by omega)
  have HT : Hid (lineB ⟨(k : Int), a, b, imm⟩ = (opStr k).data.toList ++ partB (kA k) a ++ partB (kB k) b ++ partB (kC k) imm) := Lib.hid rfl
  obtain ⟨so, hso⟩ : ∃ s, opStr k = s := ⟨_, rfl⟩
  obtain ⟨sa, hsa⟩ : ∃ s, str (partB (kA k) a) = s := ⟨_, rfl⟩
  obtain ⟨sb, hsb⟩ : ∃ s, str (partB (kB k) b) = s := ⟨_, rfl⟩
  obtain ⟨si, hsi⟩ : ∃ s, str (Lib.itoa imm) = s := ⟨_, rfl⟩
  obtain ⟨KA, hKA⟩ : ∃ c, kA k = c := ⟨_, rfl⟩
  obtain ⟨KB, hKB⟩ : ∃ c, kB k = c := ⟨_, rfl⟩
  have zo : so.size ≤ 100 := by rw [← hso, opStr_str, str_size]; have := opStr_len k; omega
  have za : sa.size ≤ 100 := by rw [← hsa, str_size]; have := partB_len (kA k) (v := a) ⟨by omega, by omega⟩; omega
  have zb : sb.size ≤ 100 := by rw [← hsb, str_size]; have := partB_len (kB k) (v := b) ⟨by omega, by omega⟩; omega
  have zi : si.size ≤ 100 := by rw [← hsi, str_size]; have := itoa_len (v := imm) ⟨by omega, by omega⟩; omega
  have H1 : Hid (so ++ sa ++ sb = str ((opStr k).data.toList ++ partB (kA k) a ++ partB (kB k) b)) := Lib.hid (by rw [← str_add, ← str_add, ← opStr_str, hso, hsa, hsb])
  have H2 : Hid (C = false → so ++ sa ++ sb = str (lineB ⟨(k : Int), a, b, imm⟩)) := Lib.hid fun hc => by
    have hk : kC k = 0 := by rcases kC_or k with h | h; · rw [h] at hC; rw [← hC] at hc; cases hc
                             · exact h
    rw [HT.out, H1.out, hk]
    unfold partB
    simp
  have H3 : Hid (C = true → so ++ sa ++ sb ++ str [32] ++ si = str (lineB ⟨(k : Int), a, b, imm⟩)) := Lib.hid fun hc => by
    have hk : kC k = 5 := by rw [← hC] at hc; simpa using hc
    rw [HT.out, H1.out, hk, ← hsi, str_add, str_add]
    congr 1
    conv => rhs; rhs; unfold partB
    rw [if_neg (by decide), List.append_assoc]
    congr 1
  generalize str (lineB ⟨(k : Int), a, b, imm⟩) = st at H2 H3 ⊢
  rw [hso, hKA, hKB] at CF
  rw [hsa, hKA] at CA
  rw [hsb, hKB] at CB
  rw [hsi] at CD
  clear HT H1 hso hsa hsb hsi hKA hKB hC hF
  cases C with
  | false =>
    go_enter Tryd.func53, Tryd.ntmps53
    go_upto_region 2 with (go_at_call 88; (with_reducible refine (CF.out _).mono ?_); rintro e1 w1 ⟨rfl, rfl⟩)
    have q1 : ∀ n : Ext (w.alloc (.cells #[.int .i64 (k : Int), .int .i64 a, .int .i64 b, .int .i64 imm] 24)), n.to.cell? ⟨w.heap.size, 1, none⟩ = some (.int .i64 a) := fun n => (n.cell _ (by simp)).trans (by simp)
    have q2 : ∀ n : Ext (w.alloc (.cells #[.int .i64 (k : Int), .int .i64 a, .int .i64 b, .int .i64 imm] 24)), n.to.cell? ⟨w.heap.size, 2, none⟩ = some (.int .i64 b) := fun n => (n.cell _ (by simp)).trans (by simp)
    refine wp_region_ext (by kernel_rfl) (by kernel_rfl) ?_
    repeat (go_big_quiet_step (first
      | (go_at_call 89; first
        | (with_reducible exact ext_below (CA.out _))
        | (with_reducible exact ext_below (CB.out _)))))
    refine wpQuiet_nil ?_
    rintro _ ⟨⟨w1, hb1⟩, rfl⟩
    go_wp2_with fail
    go_ret
    exact ⟨congrArg (fun x => Ending.returned (.string x)) (H2.out (by trivial)), below_then ((Below.refl _ _).alloc (Nat.le_refl _) _) hb1⟩
  | true =>
    go_enter Tryd.func53, Tryd.ntmps53
    go_upto_region 2 with (go_at_call 88; (with_reducible refine (CF.out _).mono ?_); rintro e1 w1 ⟨rfl, rfl⟩)
    have q1 : ∀ n : Ext (w.alloc (.cells #[.int .i64 (k : Int), .int .i64 a, .int .i64 b, .int .i64 imm] 24)), n.to.cell? ⟨w.heap.size, 1, none⟩ = some (.int .i64 a) := fun n => (n.cell _ (by simp)).trans (by simp)
    have q2 : ∀ n : Ext (w.alloc (.cells #[.int .i64 (k : Int), .int .i64 a, .int .i64 b, .int .i64 imm] 24)), n.to.cell? ⟨w.heap.size, 2, none⟩ = some (.int .i64 b) := fun n => (n.cell _ (by simp)).trans (by simp)
    have q3 : ∀ n : Ext (w.alloc (.cells #[.int .i64 (k : Int), .int .i64 a, .int .i64 b, .int .i64 imm] 24)), n.to.cell? ⟨w.heap.size, 3, none⟩ = some (.int .i64 imm) := fun n => (n.cell _ (by simp)).trans (by simp)
    refine wp_region_ext (by kernel_rfl) (by kernel_rfl) ?_
    repeat (go_big_quiet_step (first
      | (go_at_call 89; first
        | (with_reducible exact ext_below (CA.out _))
        | (with_reducible exact ext_below (CB.out _)))))
    refine wpQuiet_nil ?_
    rintro _ ⟨n, rfl⟩
    have q3' := q3 n
    have hb1 := n.below
    generalize n.to = w1 at q3' hb1 ⊢
    go_wp2_with (go_at_call 90; (with_reducible refine (CD.out _).mono ?_); rintro e2 w2 ⟨rfl, hb2⟩)
    go_ret
    exact ⟨congrArg (fun x => Ending.returned (.string x)) (H3.out (by trivial)), below_then (below_then ((Below.refl _ _).alloc (Nat.le_refl _) _) hb1) hb2⟩
theorem pr_letter (k : Int) (w : World) (hk : 0 ≤ k ∧ k ≤ 5) : Calls Tryd.prog 86 #[.int .i64 k] w fun e w' => e = .returned (.string (str (letB k))) ∧ w = w' := by
  obtain rfl | rfl | rfl | rfl | rfl | rfl : k = 0 ∨ k = 1 ∨ k = 2 ∨ k = 3 ∨ k = 4 ∨ k = 5 := by omega
  all_goals
    go_enter Tryd.func86, Tryd.ntmps86
    go_wp2
    go_ret
    exact ⟨rfl, rfl⟩
end Go.Proofs.YtgdccmmcjicgkaaDoor
end
section
namespace Go.Proofs.YtgdccmmcjicgkaaDoor
open Go.RowKit
structure PrAt (w : World) : Prop where
  forms : FormsAt w
  word : ∀ k, k < 12 → w.cell? ⟨0, k * 4, none⟩ = some (.string (opStr k))
  tab : Lib.TabIs Tryd.prog w "internal/strconv.uint64pow10" .u64 Lib.pow10Tab
theorem gTab : ∃ g, Tryd.prog.globalNamed "internal/strconv.uint64pow10" = some g := ⟨(Tryd.prog.globalNamed "internal/strconv.uint64pow10").getD 0, by kernel_rfl⟩
theorem PrAt.grow {w w' : World} (h : PrAt w) (hb : Below w.heap.size w w') : PrAt w' := by
  obtain ⟨g, hg⟩ := gTab
  exact ⟨h.forms.grow hb, fun k hk => (hb.cell (p := ⟨0, k * 4, none⟩) h.forms.pos).trans (h.word k hk), Go.Joins.tab_stays hg h.tab hb (Nat.le_refl _)⟩
theorem lib_Itoa (v : Int) (w : World) (h : PrAt w) (hv : I64 v) : Calls Tryd.prog 87 #[.int .i64 v] w fun e w' => e = .returned (.string (str (Lib.itoa v))) ∧ Below w.heap.size w w' :=
  (Tryd.strconv_Itoa v hv.1 hv.2 w h.tab).mono fun e w' ⟨h1, k, os, h2⟩ => ⟨h1, h2 ▸ Lib.below_grow w.heap.size w (Nat.le_refl _) k os⟩
theorem run_ix3 (p q r : Int) (n : Nat) (hn : n < 3) (w : World) : (Instr.index 131 (.agg #[.int .i64 p, .int .i64 q, .int .i64 r]) (.int .i64 (n : Int))).run Tryd.prog w = .ok (.int .i64 ([p, q, r].getD n 0)) w := by
  have h1 : ((n : Int) < 3) := by omega
  match n, hn, h1 with
  | 0, _, _ => simp [Instr.index, go_sem, run_underlying Tryd.underlying131, Tryd.sizeOf3, part, Tryd.isAgg3]
  | 1, _, _ => simp [Instr.index, go_sem, run_underlying Tryd.underlying131, Tryd.sizeOf3, part, Tryd.isAgg3]
  | 2, _, _ => simp [Instr.index, go_sem, run_underlying Tryd.underlying131, Tryd.sizeOf3, part, Tryd.isAgg3]
theorem wp_ix3 {ops : Array Oper} {rest : List Oper} {o : Oper} {a : Act} {Q : Exit → Act → World → Prop} {w : World} (hgd : o.guard = none) (x y : Operand) (ho : o.op = .index 131 x y) (p q r : Int) (n : Nat) (hn : n < 3) (hx : a.eval x = .agg #[.int .i64 p, .int .i64 q, .int .i64 r]) (hy : a.eval y = .int .i64 (n : Int))
    (h : wpList Tryd.prog ops Q rest (a.put o.dst (.int .i64 ([p, q, r].getD n 0))) w) : wpList Tryd.prog ops Q (o :: rest) a w := by
  refine wpList_plain hgd fun _ hK => ?_
  unfold Oper.wp execOp
  simp only [ho, hx, hy, Sem.run_bind, Sem.run_pure, Result.andThen_ok, run_ix3 p q r n hn w]
  exact hK _ _ h
def fK (k : Nat) : Nat → Int
  | 0 => kA k | 1 => kB k | _ => kC k
def fV (i : Ins) : Nat → Int
  | 0 => i.a | 1 => i.b | _ => i.imm
def lineP (i : Ins) : Nat → List UInt8
  | 0 => (opStr i.op.toNat).data.toList
  | n + 1 => lineP i n ++ partB (fK i.op.toNat n) (fV i n)
theorem lineP_len {i : Ins} (h : i.ok) : ∀ n, (lineP i n).length ≤ 5 + 23 * n
  | 0 => by have := opStr_len i.op.toNat; show (opStr i.op.toNat).data.toList.length ≤ _; omega
  | n + 1 => by
    have h1 := lineP_len h n
    have h2 : (partB (fK i.op.toNat n) (fV i n)).length ≤ 23 := partB_len _ (by match n with | 0 => exact h.2.1 | 1 => exact h.2.2.1 | _ + 2 => exact h.2.2.2)
    show (lineP i n ++ _).length ≤ _
    rw [List.length_append]; omega
theorem fK_bound (k n : Nat) : 0 ≤ fK k n ∧ fK k n ≤ 5 := by match n with | 0 => exact kA_bound k | 1 => exact kB_bound k | _ + 2 => exact kC_bound k
set_option maxRecDepth 100000 in
set_option maxHeartbeats 4000000 in
theorem pr_line (i : Ins) (w : World) (h : PrAt w) (hi : i.ok) (hF : i.formed = true) : Calls Tryd.prog 50 #[i.v] w fun e w' => e = .returned (.string (str (lineB i))) ∧ Below w.heap.size w w' := by
  obtain ⟨⟨o0, o1⟩, -⟩ := formed_parts hF
  have HLL : Hid (∀ n, (str (lineP i n)).size ≤ 5 + 23 * n) := Lib.hid fun n => by rw [str_size]; exact lineP_len hi n
  have HSZ : Hid (∀ n, n < 3 → (str (Lib.itoa (fV i n))).size ≤ 100) := Lib.hid fun n hn => by
    rw [str_size]
    have : (Lib.itoa (fV i n)).length ≤ 21 := itoa_len (by match n with | 0 => exact hi.2.1 | 1 => exact hi.2.2.1 | _ + 2 => exact hi.2.2.2)
    omega
  have HVI : Hid (∀ n, I64 (fV i n)) := Lib.hid fun n => by match n with | 0 => exact hi.2.1 | 1 => exact hi.2.2.1 | _ + 2 => exact hi.2.2.2
  have HST : Hid (∀ n, n < 3 → fK i.op.toNat n ≠ 0 → str (lineP i n) ++ (str [32] ++ str (letB (fK i.op.toNat n)) ++ str (Lib.itoa (fV i n))) = str (lineP i (n + 1))) := Lib.hid fun n _ hk => by
    show _ = str (lineP i n ++ partB _ _)
    rw [str_add, str_add, str_add]
    unfold partB
    rw [if_neg hk]
  have HSK : Hid (∀ n, n < 3 → fK i.op.toNat n = 0 → str (lineP i n) = str (lineP i (n + 1))) := Lib.hid fun n _ hk => by
    show _ = str (lineP i n ++ partB _ _)
    unfold partB
    rw [if_pos hk, List.append_nil]
  have HL3 : Hid (str (lineB i) = str (lineP i 3)) := Lib.hid rfl
  have HL0 : Hid (str (lineP i 0) = opStr i.op.toNat) := Lib.hid rfl
  obtain ⟨op, a, b, imm⟩ := i
  simp only at o0 o1
  obtain ⟨k, rfl⟩ := Int.eq_ofNat_of_zero_le o0
  have hk : k < 12 := by omega
  obtain ⟨c1, c2, c3⟩ := h.forms.cells k hk
  have c0 := h.word k hk
  have HP := Lib.hid h
  obtain ⟨so, hso⟩ : ∃ s, opStr k = s := ⟨_, rfl⟩
  obtain ⟨K0, hK0⟩ : ∃ s, kA k = s := ⟨_, rfl⟩
  obtain ⟨K1, hK1⟩ : ∃ s, kB k = s := ⟨_, rfl⟩
  obtain ⟨K2, hK2⟩ : ∃ s, kC k = s := ⟨_, rfl⟩
  have HK0 : Hid (fK k 0 = K0) := Lib.hid hK0
  have HK1 : Hid (fK k 1 = K1) := Lib.hid hK1
  have HK2 : Hid (fK k 2 = K2) := Lib.hid hK2
  have HS0 : Hid (so = str (lineP ⟨(k : Int), a, b, imm⟩ 0)) := Lib.hid hso.symm
  rw [hso] at c0
  rw [hK0] at c1
  rw [hK1] at c2
  rw [hK2] at c3
  have hpos := h.forms.pos
  rw [HL3.out]
  clear hso hK0 hK1 hK2 h hF hi HL0 HL3
  rw [Int.toNat_natCast] at HST HSK
  go_enter Tryd.func50, Tryd.ntmps50
  go_upto_region 4 with fail
  have HW0 : Hid (Below w.heap.size w ((w.alloc (.cells #[.int .i64 (k : Int), .int .i64 a, .int .i64 b, .int .i64 imm] 24)).alloc (.cells #[.string so, .int .i64 K0, .int .i64 K1, .int .i64 K2] 133))) := Lib.hid (((Below.refl w.heap.size w).alloc (Nat.le_refl _) _).alloc (by simp) _)
  have hbx : Box ((w.alloc (.cells #[.int .i64 (k : Int), .int .i64 a, .int .i64 b, .int .i64 imm] 24)).alloc (.cells #[.string so, .int .i64 K0, .int .i64 K1, .int .i64 K2] 133)) (w.heap.size + 1) [.string so, .int .i64 K0, .int .i64 K1, .int .i64 K2] := Box.new (by simp)
  have HBX := Lib.hid hbx
  clear hbx
  generalize ((w.alloc (.cells #[.int .i64 (k : Int), .int .i64 a, .int .i64 b, .int .i64 imm] 24)).alloc (.cells #[.string so, .int .i64 K0, .int .i64 K1, .int .i64 K2] 133)) = W0 at HW0 HBX ⊢
  generalize w.heap.size + 1 = g3 at HBX ⊢
  go_wp2_with fail
  go_loopw [4, 20] (fun s c wr => ∃ n : Nat, n ≤ 3 ∧ c = .int .i64 (n : Int) ∧ (∃ t, s = .string t ∧ Hid (t = str (lineP ⟨(k : Int), a, b, imm⟩ n))) ∧ Hid (Below W0.heap.size W0 wr)) (fun _ c _ => 3 - (intOf c).toNat)
  case atStart => exact ⟨0, by omega, rfl, ⟨_, rfl, HS0⟩, Lib.hid (Below.refl _ _)⟩
  case round =>
    obtain ⟨n, hn, rfl, ⟨t, rfl, HT⟩, HB⟩ := hrel
    by_cases h3 : n < 3
    · have hbx := HBX.out.keep HB.out
      have y0 : wr.cell? ⟨g3, 0, none⟩ = some (.string so) := hbx.2.1 0
      have y1 : wr.cell? ⟨g3, 1, none⟩ = some (.int .i64 K0) := hbx.2.1 1
      have y2 : wr.cell? ⟨g3, 2, none⟩ = some (.int .i64 K1) := hbx.2.1 2
      have y3 : wr.cell? ⟨g3, 3, none⟩ = some (.int .i64 K2) := hbx.2.1 3
      have hts : t.size ≤ 100 := by rw [HT.out]; have := HLL.out n; omega
      clear hbx
      obtain rfl | rfl | rfl : n = 0 ∨ n = 1 ∨ n = 2 := by omega
      · by_cases hz : K0 = 0
        · subst hz
          go_wp2_with ((with_reducible show wpList _ _ _ (Oper.mk (some 23) (.index _ _ _) _ _ _ _ :: _) _ _); refine wp_ix3 rfl _ _ rfl a b imm 0 (by decide) rfl rfl ?_)
          go_roundw
          case rel => exact ⟨1, by omega, rfl, ⟨_, rfl, Lib.hid (HT.out.trans (HSK.out 0 (by omega) HK0.out))⟩, HB⟩
          case measure => simp [intOf]
        · have hkb := fK_bound k 0
          rw [HK0.out] at hkb
          have CL : Hid (∀ w1, Calls Tryd.prog 86 #[.int .i64 K0] w1 fun e w' => e = .returned (.string (str (letB K0))) ∧ w1 = w') := Lib.hid fun w1 => pr_letter K0 w1 hkb
          have CI : Hid (∀ w1, Below wr.heap.size wr w1 → Calls Tryd.prog 87 #[.int .i64 a] w1 fun e w' => e = .returned (.string (str (Lib.itoa a))) ∧ Below w1.heap.size w1 w') := Lib.hid fun w1 hb => lib_Itoa a w1 (((HP.out.grow HW0.out).grow HB.out).grow hb) (HVI.out 0)
          have HN := HST.out 0 (by omega) (by rw [HK0.out]; exact hz)
          rw [HK0.out, ← HT.out] at HN
          have hsl : (str (letB K0)).size ≤ 1 := by rw [str_size]; exact letB_len K0
          have hsi : (str (Lib.itoa a)).size ≤ 100 := HSZ.out 0 (by omega)
          have e0 : (K0 == 0) = false := by simpa using hz
          have d0 : decide (K0 = 0) = false := decide_eq_false hz
          obtain ⟨sl, hl⟩ : ∃ s, str (letB K0) = s := ⟨_, rfl⟩
          obtain ⟨si, hi⟩ : ∃ s, str (Lib.itoa a) = s := ⟨_, rfl⟩
          have HN' : Hid (t ++ (str [32] ++ sl ++ si) = str (lineP ⟨(k : Int), a, b, imm⟩ (0 + 1))) := Lib.hid (by rw [← hl, ← hi]; exact HN)
          rw [hl] at CL hsl
          rw [hi] at CI hsi
          clear HN hl hi hkb
          go_wp2_with (first
            | ((with_reducible show wpList _ _ _ (Oper.mk (some 23) (.index _ _ _) _ _ _ _ :: _) _ _); refine wp_ix3 rfl _ _ rfl a b imm 0 (by decide) rfl rfl ?_)
            | (go_at_call 86; (with_reducible refine (CL.out _).mono ?_); rintro e1 w1 ⟨rfl, rfl⟩)
            | (go_at_call 87; (with_reducible refine (CI.out _ (Below.refl _ _)).mono ?_); rintro e2 w2 ⟨rfl, hb2⟩))
          go_roundw
          case rel => exact ⟨1, by omega, rfl, ⟨_, rfl, HN'⟩, Lib.hid (below_then HB.out hb2)⟩
          case measure => simp [intOf]
      · by_cases hz : K1 = 0
        · subst hz
          go_wp2_with ((with_reducible show wpList _ _ _ (Oper.mk (some 23) (.index _ _ _) _ _ _ _ :: _) _ _); refine wp_ix3 rfl _ _ rfl a b imm 1 (by decide) rfl rfl ?_)
          go_roundw
          case rel => exact ⟨2, by omega, rfl, ⟨_, rfl, Lib.hid (HT.out.trans (HSK.out 1 (by omega) HK1.out))⟩, HB⟩
          case measure => simp [intOf]
        · have hkb := fK_bound k 1
          rw [HK1.out] at hkb
          have CL : Hid (∀ w1, Calls Tryd.prog 86 #[.int .i64 K1] w1 fun e w' => e = .returned (.string (str (letB K1))) ∧ w1 = w') := Lib.hid fun w1 => pr_letter K1 w1 hkb
          have CI : Hid (∀ w1, Below wr.heap.size wr w1 → Calls Tryd.prog 87 #[.int .i64 b] w1 fun e w' => e = .returned (.string (str (Lib.itoa b))) ∧ Below w1.heap.size w1 w') := Lib.hid fun w1 hb => lib_Itoa b w1 (((HP.out.grow HW0.out).grow HB.out).grow hb) (HVI.out 1)
          have HN := HST.out 1 (by omega) (by rw [HK1.out]; exact hz)
          rw [HK1.out, ← HT.out] at HN
          have hsl : (str (letB K1)).size ≤ 1 := by rw [str_size]; exact letB_len K1
          have hsi : (str (Lib.itoa b)).size ≤ 100 := HSZ.out 1 (by omega)
          have e0 : (K1 == 0) = false := by simpa using hz
          have d0 : decide (K1 = 0) = false := decide_eq_false hz
          obtain ⟨sl, hl⟩ : ∃ s, str (letB K1) = s := ⟨_, rfl⟩
          obtain ⟨si, hi⟩ : ∃ s, str (Lib.itoa b) = s := ⟨_, rfl⟩
          have HN' : Hid (t ++ (str [32] ++ sl ++ si) = str (lineP ⟨(k : Int), a, b, imm⟩ (1 + 1))) := Lib.hid (by rw [← hl, ← hi]; exact HN)
          rw [hl] at CL hsl
          rw [hi] at CI hsi
          clear HN hl hi hkb
          go_wp2_with (first
            | ((with_reducible show wpList _ _ _ (Oper.mk (some 23) (.index _ _ _) _ _ _ _ :: _) _ _); refine wp_ix3 rfl _ _ rfl a b imm 1 (by decide) rfl rfl ?_)
            | (go_at_call 86; (with_reducible refine (CL.out _).mono ?_); rintro e1 w1 ⟨rfl, rfl⟩)
            | (go_at_call 87; (with_reducible refine (CI.out _ (Below.refl _ _)).mono ?_); rintro e2 w2 ⟨rfl, hb2⟩))
          go_roundw
          case rel => exact ⟨2, by omega, rfl, ⟨_, rfl, HN'⟩, Lib.hid (below_then HB.out hb2)⟩
          case measure => simp [intOf]
      · by_cases hz : K2 = 0
        · subst hz
          go_wp2_with ((with_reducible show wpList _ _ _ (Oper.mk (some 23) (.index _ _ _) _ _ _ _ :: _) _ _); refine wp_ix3 rfl _ _ rfl a b imm 2 (by decide) rfl rfl ?_)
          go_roundw
          case rel => exact ⟨3, by omega, rfl, ⟨_, rfl, Lib.hid (HT.out.trans (HSK.out 2 (by omega) HK2.out))⟩, HB⟩
          case measure => simp [intOf]
        · have hkb := fK_bound k 2
          rw [HK2.out] at hkb
          have CL : Hid (∀ w1, Calls Tryd.prog 86 #[.int .i64 K2] w1 fun e w' => e = .returned (.string (str (letB K2))) ∧ w1 = w') := Lib.hid fun w1 => pr_letter K2 w1 hkb
          have CI : Hid (∀ w1, Below wr.heap.size wr w1 → Calls Tryd.prog 87 #[.int .i64 imm] w1 fun e w' => e = .returned (.string (str (Lib.itoa imm))) ∧ Below w1.heap.size w1 w') := Lib.hid fun w1 hb => lib_Itoa imm w1 (((HP.out.grow HW0.out).grow HB.out).grow hb) (HVI.out 2)
          have HN := HST.out 2 (by omega) (by rw [HK2.out]; exact hz)
          rw [HK2.out, ← HT.out] at HN
          have hsl : (str (letB K2)).size ≤ 1 := by rw [str_size]; exact letB_len K2
          have hsi : (str (Lib.itoa imm)).size ≤ 100 := HSZ.out 2 (by omega)
          have e0 : (K2 == 0) = false := by simpa using hz
          have d0 : decide (K2 = 0) = false := decide_eq_false hz
          obtain ⟨sl, hl⟩ : ∃ s, str (letB K2) = s := ⟨_, rfl⟩
          obtain ⟨si, hi⟩ : ∃ s, str (Lib.itoa imm) = s := ⟨_, rfl⟩
          have HN' : Hid (t ++ (str [32] ++ sl ++ si) = str (lineP ⟨(k : Int), a, b, imm⟩ (2 + 1))) := Lib.hid (by rw [← hl, ← hi]; exact HN)
          rw [hl] at CL hsl
          rw [hi] at CI hsi
          clear HN hl hi hkb
          go_wp2_with (first
            | ((with_reducible show wpList _ _ _ (Oper.mk (some 23) (.index _ _ _) _ _ _ _ :: _) _ _); refine wp_ix3 rfl _ _ rfl a b imm 2 (by decide) rfl rfl ?_)
            | (go_at_call 86; (with_reducible refine (CL.out _).mono ?_); rintro e1 w1 ⟨rfl, rfl⟩)
            | (go_at_call 87; (with_reducible refine (CI.out _ (Below.refl _ _)).mono ?_); rintro e2 w2 ⟨rfl, hb2⟩))
          go_roundw
          case rel => exact ⟨3, by omega, rfl, ⟨_, rfl, HN'⟩, Lib.hid (below_then HB.out hb2)⟩
          case measure => simp [intOf]
    · obtain rfl : n = 3 := by omega
      go_wp2_with fail
      go_ret
      exact ⟨congrArg (fun x => Ending.returned (.string x)) HT.out, below_then HW0.out HB.out⟩
end Go.Proofs.YtgdccmmcjicgkaaDoor
end
section
namespace Go.Proofs.YtgdccmmcjicgkaaDoor
open Go.RowKit
def fmtL (l : List Ins) : List UInt8 := l.flatMap fun i => lineB i ++ [10]
def fmtB (l : List Ins) : List UInt8 := if encE l = 0 then fmtL l else []
theorem fmtL_len : ∀ {l : List Ins}, (∀ i ∈ l, i.ok) → (fmtL l).length ≤ 81 * l.length
  | [], _ => by simp [fmtL]
  | i :: l, h => by
    have h1 := fmtL_len fun j hj => h j (List.mem_cons_of_mem _ hj)
    have h2 := lineB_len (h i (List.mem_cons_self ..))
    unfold fmtL at h1 ⊢
    rw [List.flatMap_cons, List.length_append, List.length_append, List.length_cons, List.length_cons, List.length_nil]
    omega
theorem fmtL_succ {l : List Ins} {k : Nat} {i : Ins} (h : l[k]? = some i) : fmtL (l.take (k + 1)) = fmtL (l.take k) ++ lineB i ++ [10] := by
  unfold fmtL
  rw [List.take_add_one, h]
  simp
theorem take_ok {l : List Ins} (h : ∀ i ∈ l, i.ok) (k : Nat) : ∀ i ∈ l.take k, i.ok := fun i hi => h i (List.mem_of_mem_take hi)
theorem IsBu.keep {B b : Nat} {bs : List Value} {w w' : World} (h : IsBu B b bs w) (hb : Below w.heap.size w w') : IsBu B b bs w' := by
  rcases h with h | h
  · have hlt := h.lt
    obtain ⟨h1, v, h2, h3, h4⟩ := h
    exact .inl ⟨h1, v, (hb.block b hlt).trans h2, own_grow h3 hb, h4⟩
  · have hlt := h.lt
    obtain ⟨h1, v, h2, h3, h4⟩ := h
    exact .inr ⟨h1, v, (hb.block b hlt).trans h2, own_grow h3 hb, h4⟩
set_option maxRecDepth 100000 in
set_option maxHeartbeats 4000000 in
theorem pr_Format (A : Option Addr) (n c : Nat) (l : List Ins) (w : World) (hf : PrAt w) (h : InsAt w A l) (hn : l.length = n) (h9 : n ≤ 9223372036854775807) : Calls Tryd.prog 15 #[.slice A n c] w fun e w' => e = .returned (.tuple #[.string (str (fmtB l)), .int .i64 (encE l)]) ∧ Below w.heap.size w w' := by
  have hallok := h.ok
  have HI := Lib.hid h
  have HN := Lib.hid hn
  have HF := Lib.hid hf
  have HOK := Lib.hid hallok
  clear h hn hf hallok
  by_cases h0 : (512 : Int) < (n : Int)
  · have e1 : encE l = 5 := by unfold encE; rw [if_pos (by rw [HN.out]; omega)]
    have e2 : fmtB l = [] := by unfold fmtB; rw [e1]; rfl
    rw [e1, e2]
    clear e1 e2
    go_enter Tryd.func15, Tryd.ntmps15
    go_wp2_with fail
    go_ret2
    exact ⟨rfl, Below.refl _ _⟩
  · have e1 : encE l = if l.all Ins.formed then 0 else 21 := by unfold encE; rw [if_neg (by rw [HN.out]; omega)]
    have HE := Lib.hid e1
    clear e1
    have hn512 : (n : Int) ≤ 512 := by omega
    obtain ⟨sf, hsf⟩ : ∃ s, str (fmtB l) = s := ⟨_, rfl⟩
    obtain ⟨E, hE⟩ : ∃ E, encE l = E := ⟨_, rfl⟩
    rw [hsf, hE]
    have HSF := Lib.hid hsf
    have HEE := Lib.hid hE
    clear hsf hE
    go_enter Tryd.func15, Tryd.ntmps15
    go_upto_region 4 with fail
    have HB1 : Hid (Below w.heap.size w (w.alloc (.cells #[.pointer none, .slice none 0 0] 83))) := Lib.hid ((Below.refl _ _).alloc (Nat.le_refl _) _)
    have HU1 : Hid (IsBu w.heap.size w.heap.size [] (w.alloc (.cells #[.pointer none, .slice none 0 0] 83))) := Lib.hid (Lib.fresh_isBuilder _ _ w)
    generalize w.alloc (.cells #[.pointer none, .slice none 0 0] 83) = w1 at HB1 HU1 ⊢
    go_wp2_with fail
    go_loopw [12] (fun i wr => ∃ (k : Nat), k ≤ n ∧ i = .int .i64 k ∧ Hid ((l.take k).all Ins.formed = true) ∧ Hid (IsBu w.heap.size w.heap.size (Lib.byteCells (fmtL (l.take k))) wr) ∧ Hid (Below w.heap.size w wr)) (fun i _ => n - (intOf i).toNat)
    case atStart => exact ⟨0, Nat.zero_le _, rfl, Lib.hid rfl, HU1, HB1⟩
    case round =>
      obtain ⟨k, hk, rfl, HT, HU, HB⟩ := hrel
      by_cases hlt : k < n
      · obtain ⟨i, hi⟩ : ∃ i, l[k]? = some i := ⟨_, List.getElem?_eq_getElem (by rw [HN.out]; exact hlt)⟩
        obtain ⟨ad, rfl, hs, hb, hr, hok⟩ := (HI.out.grow HB.out) k i hi
        have HS := Lib.hid hs
        have HR := Lib.hid hr
        have q1 : (0 : Int) ≤ (k : Int) := by omega
        have q2 : (k : Int) < (n : Int) := by omega
        have wk : IntKind.i64.wrap ((k : Int) + 1) = ((k + 1 : Nat) : Int) := (IntWalk.i64_in _ (by omega)).trans (by omega)
        have HK := Lib.hid hi
        obtain ⟨x, hx⟩ : ∃ x, i.formed = x := ⟨_, rfl⟩
        have CF : Hid (∀ w1, Below wr.heap.size wr w1 → Calls Tryd.prog 47 #[i.v] w1 fun e w' => e = .returned (.bool x) ∧ Below w1.heap.size w1 w') := Lib.hid fun w1 hb => by
          have := pr_formed i w1 ((HF.out.forms.grow HB.out).grow hb)
          rw [hx] at this; exact this
        have CL : Hid (x = true → ∀ w1, Below wr.heap.size wr w1 → Calls Tryd.prog 50 #[i.v] w1 fun e w' => e = .returned (.string (str (lineB i))) ∧ Below w1.heap.size w1 w') := Lib.hid fun hxt w1 hb => pr_line i w1 ((HF.out.grow HB.out).grow hb) hok (hx.trans hxt)
        have hll : (fmtL (l.take k)).length ≤ 41472 := by
          have h1 := fmtL_len (take_ok HOK.out k)
          rw [List.length_take, HN.out] at h1
          have h2 : min k n ≤ 512 := by omega
          omega
        have hli := lineB_len hok
        have HLL : Hid ((Lib.byteCells (fmtL (l.take k))).length + (str (lineB i)).size ≤ 140737488355328 ∧ (Lib.byteCells (fmtL (l.take k)) ++ Lib.strCells (str (lineB i))).length + 1 ≤ 140737488355328) := Lib.hid (by
          rw [List.length_append, Lib.byteCells_length, Lib.strCells_length, str_size]; omega)
        have HCC : Hid (Lib.byteCells (fmtL (l.take k)) ++ Lib.strCells (str (lineB i)) ++ [.int .u8 10] = Lib.byteCells (fmtL (l.take (k + 1)))) := Lib.hid (by
          rw [fmtL_succ hi, Lib.byteCells_append, Lib.byteCells_append]; rfl)
        have HX := Lib.hid hx
        clear hs hr hb hi hx hok hll hli
        go_upto_region 7 with (first
          | ((with_reducible show wpList _ _ _ (Oper.mk _ (.load _ _) _ _ _ _ :: _) _ _); refine ld_insA HS.out HR.out rfl _ rfl rfl ?_)
          | ((with_reducible show wpList _ _ _ (Oper.mk _ (.store _ _ _) _ _ _ _ :: _) _ _); refine st_ins (w := wr.alloc (.cells Ins.zero.cells.toArray 24)) (g := wr.heap.size) (i := Ins.zero) (j := i) (Box.new rfl) rfl _ _ rfl rfl rfl ?_; intro W2 b2 p2))
        have hb2 := put_facts ((Below.refl wr.heap.size wr).alloc (Nat.le_refl _) (.cells Ins.zero.cells.toArray 24)) (Nat.le_refl _) p2
        generalize wr.heap.size = g6 at b2 ⊢
        cases x with
        | false =>
          have hall : l.all Ins.formed = false := all_no HK.out HX.out
          go_wp2_with (first
            | ((with_reducible show wpList _ _ _ (Oper.mk _ (.load _ _) _ _ _ _ :: _) _ _); refine ld_ins b2 rfl _ rfl rfl ?_)
            | (go_at_call 47; (with_reducible refine (CF.out _ hb2).mono ?_); rintro e1 w3 ⟨rfl, hb3⟩))
          go_ret2
          have he : E = 21 := by rw [← HEE.out, HE.out, hall]; rfl
          have hf0 : fmtB l = [] := by unfold fmtB; rw [HE.out, hall]; rfl
          subst he
          refine ⟨?_, below_then HB.out (below_then hb2 hb3)⟩
          rw [← HSF.out, hf0]; rfl
        | true =>
          go_upto_region 9 with (first
            | ((with_reducible show wpList _ _ _ (Oper.mk _ (.load _ _) _ _ _ _ :: _) _ _); refine ld_ins b2 rfl _ rfl rfl ?_)
            | (go_at_call 47; (with_reducible refine (CF.out _ hb2).mono ?_); rintro e1 w3 ⟨rfl, hb3⟩))
          have b3 := b2.keep hb3
          have hb13 := below_then hb2 hb3
          have HU3 : Hid (IsBu w.heap.size w.heap.size (Lib.byteCells (fmtL (l.take k))) w3) := Lib.hid (HU.out.keep hb13)
          have HB3 : Hid (Below w.heap.size w w3) := Lib.hid (below_then HB.out hb13)
          go_upto_region 10 with (first
            | ((with_reducible show wpList _ _ _ (Oper.mk _ (.load _ _) _ _ _ _ :: _) _ _); refine ld_ins b3 rfl _ rfl rfl ?_)
            | (go_at_call 50; (with_reducible refine (CL.out (by trivial) _ hb13).mono ?_); rintro e2 w4 ⟨rfl, hb4⟩)
            | (go_at_call 49; (with_reducible refine (bu_str w.heap.size w.heap.size _ _ _ (HU3.out.keep hb4) HLL.out.1 (below_then HB3.out hb4).size).mono ?_); rintro e3 w5 ⟨rfl, hu5, hb5⟩))
          have HB5 : Hid (Below w.heap.size w w5) := Lib.hid ((below_then HB3.out hb4).trans hb5)
          have HU5 := Lib.hid hu5
          clear hb4 hb5 hu5 b2 b3 hb2 hb3 hb13 p2
          go_wp2_with (go_at_call 51; (with_reducible refine (bu_byte w.heap.size w.heap.size _ _ _ HU5.out HLL.out.2 HB5.out.size).mono ?_); rintro e4 w6 ⟨rfl, hu6, hb6⟩)
          go_roundw
          case rel => exact ⟨k + 1, by omega, rfl, Lib.hid (by show _ = _; rw [take_succ_all HK.out, HT.out, HX.out]; rfl), Lib.hid (HCC.out ▸ hu6), Lib.hid (HB5.out.trans hb6)⟩
          case measure => simp [intOf]; omega
      · obtain rfl : k = n := by omega
        have hlo : ¬ (k : Int) < (k : Int) := by omega
        have hall : l.all Ins.formed = true := by have := HT.out; rwa [← HN.out, List.take_length] at this
        have he : E = 0 := by rw [← HEE.out, HE.out, hall]; rfl
        have hu := HU.out
        rw [← HN.out, List.take_length] at hu
        have HUE := Lib.hid hu
        have HFE : Hid (str (fmtL l) = sf) := Lib.hid (by rw [← HSF.out]; unfold fmtB; rw [HEE.out, if_pos he])
        clear hu hall
        go_wp2_with (go_at_call 52; (with_reducible refine (Tryd.Builder_String_any w.heap.size w.heap.size (fmtL l) _ HUE.out HB.out.size).mono ?_); rintro e1 w2 ⟨rfl, hb2⟩)
        go_ret2
        subst he
        exact ⟨by rw [← HFE.out]; rfl, HB.out.trans hb2⟩
end Go.Proofs.YtgdccmmcjicgkaaDoor
end
