/- form, field, Formed and Uses of the reference of layer 38. -/
import Derived.Test.YtgdccmmcjicgkaaDoorkE2toT4
set_option linter.unusedVariables false
set_option linter.unusedSimpArgs false
namespace Go.Proofs.YtgdccmmcjicgkaaDoor
open Go.RowKit
def opStr : Nat → ByteArray
  | 0 => ⟨#[104, 97, 108, 116]⟩
  | 1 => ⟨#[99, 108, 101, 97, 114]⟩
  | 2 => ⟨#[109, 97, 99]⟩
  | 3 => ⟨#[109, 97, 99, 109]⟩
  | 4 => ⟨#[109, 97, 99, 99]⟩
  | 5 => ⟨#[114, 111, 117, 110, 100]⟩
  | 6 => ⟨#[108, 111, 97, 100]⟩
  | 7 => ⟨#[115, 116, 111, 114, 101]⟩
  | 8 => ⟨#[112, 117, 115, 104]⟩
  | 9 => ⟨#[105, 110]⟩
  | 10 => ⟨#[111, 117, 116]⟩
  | _ => ⟨#[109, 111, 118, 101]⟩
def formR (op : Int) : Value :=
  if 0 ≤ op ∧ op < 12 then .tuple #[.string (opStr op.toNat), .int .i64 (kA op.toNat), .int .i64 (kB op.toNat), .bool (kC op.toNat == 5)] else .tuple #[.string ⟨#[]⟩, .int .i64 0, .int .i64 0, .bool false]
set_option maxRecDepth 100000 in
theorem r38_form (op : Int) (w : World) : Calls Tryd.prog 88 #[.int .i64 op] w fun e w' => e = .returned (formR op) ∧ w = w' := by
  by_cases h : 0 ≤ op ∧ op < 12
  · unfold formR
    rw [if_pos h]
    obtain ⟨h0, h1⟩ := h
    obtain rfl | rfl | rfl | rfl | rfl | rfl | rfl | rfl | rfl | rfl | rfl | rfl : op = 0 ∨ op = 1 ∨ op = 2 ∨ op = 3 ∨ op = 4 ∨ op = 5 ∨ op = 6 ∨ op = 7 ∨ op = 8 ∨ op = 9 ∨ op = 10 ∨ op = 11 := by omega
    all_goals
      clear h0 h1
      go_enter Tryd.func88, Tryd.ntmps88
      go_wp2_with fail
      refine bodyPost_ret (results_tmp4 rfl _ _ _) rfl ?_
      exact ⟨rfl, rfl⟩
  · unfold formR
    rw [if_neg h]
    have n0 : (op == 0) = false := by simp; omega
    have n1 : (op == 1) = false := by simp; omega
    have n2 : (op == 2) = false := by simp; omega
    have n3 : (op == 3) = false := by simp; omega
    have n4 : (op == 4) = false := by simp; omega
    have n5 : (op == 5) = false := by simp; omega
    have n6 : (op == 6) = false := by simp; omega
    have n7 : (op == 7) = false := by simp; omega
    have n8 : (op == 8) = false := by simp; omega
    have n9 : (op == 9) = false := by simp; omega
    have n10 : (op == 10) = false := by simp; omega
    have n11 : (op == 11) = false := by simp; omega
    clear h
    go_enter Tryd.func88, Tryd.ntmps88
    go_wp2_with fail
    refine bodyPost_ret (results_tmp4 rfl _ _ _) rfl ?_
    exact ⟨rfl, rfl⟩
theorem r38_field (k v : Int) (w : World) (hk : 0 ≤ k ∧ k ≤ 4) (hv : I64 v) : Calls Tryd.prog 91 #[.int .i64 k, .int .i64 v] w fun e w' => e = .returned (.bool (fitsK k v)) ∧ w = w' := by
  have CI : Hid (∀ hi w1, Calls Tryd.prog 64 #[.int .i64 v, .int .i64 0, .int .i64 hi] w1 fun e w' => e = .returned (.bool (inB v 0 hi)) ∧ w1 = w') := fun hi w1 => rf_In v 0 hi w1
  have e7 : inB v 0 7 = fitsK 1 v := Bool.eq_iff_iff.2 (by simp [inB, fitsK]; omega)
  have e3 : fitsK 3 v = fitsK 1 v := rfl
  have e9 : inB v 0 127 = fitsK 2 v := Bool.eq_iff_iff.2 (by simp [inB, fitsK]; omega)
  have e4 : fitsK 4 v = fitsK 2 v := rfl
  have e0 : fitsK 0 v = (v == 0) := rfl
  obtain rfl | rfl | rfl | rfl | rfl : k = 0 ∨ k = 1 ∨ k = 2 ∨ k = 3 ∨ k = 4 := by omega
  all_goals
    try rw [e3]
    try rw [e4]
    try rw [e0]
    try rw [← e7]
    try rw [← e9]
    clear hk e7 e3 e9 e4 e0 hv
    go_enter Tryd.func91, Tryd.ntmps91
    go_wp2_with (go_at_call 64; (with_reducible refine (CI.out _ _).mono ?_); rintro e1 w1 ⟨rfl, rfl⟩)
    go_ret
    exact ⟨rfl, rfl⟩
set_option maxRecDepth 100000 in
set_option maxHeartbeats 4000000 in
theorem r38_Formed (i : Ins) (w : World) (hi : i.ok) : Calls Tryd.prog 54 #[i.v] w fun e w' => e = .returned (.bool i.formed) ∧ Below w.heap.size w w' := by
  obtain ⟨op, a, b, imm⟩ := i
  obtain ⟨i0, i1, i2, i3⟩ := hi
  simp only at i0 i1 i2 i3
  have fin : ∀ (c : Bool), Ins.formed ⟨op, a, b, imm⟩ = c → Calls Tryd.prog 54 #[.agg #[.int .i64 op, .int .i64 a, .int .i64 b, .int .i64 imm]] w (fun e w' => e = .returned (.bool c) ∧ Below w.heap.size w w') → Calls Tryd.prog 54 #[Ins.v ⟨op, a, b, imm⟩] w fun e w' => e = .returned (.bool (Ins.formed ⟨op, a, b, imm⟩)) ∧ Below w.heap.size w w' := fun c h1 h2 => by rw [h1]; exact h2
  by_cases h : 0 ≤ op ∧ op < 12
  · obtain ⟨x, hx⟩ : ∃ x, fitsK (kA op.toNat) a = x := ⟨_, rfl⟩
    obtain ⟨y, hy⟩ : ∃ x, fitsK (kB op.toNat) b = x := ⟨_, rfl⟩
    obtain ⟨z, hz⟩ : ∃ x, fitsK (kC op.toNat) imm = x := ⟨_, rfl⟩
    refine fin (x && (y && z)) (by unfold Ins.formed; rw [hx, hy, hz, decide_eq_true h, Bool.true_and, Bool.and_assoc]) ?_
    have C0 : Hid (∀ w1, Calls Tryd.prog 88 #[.int .i64 op] w1 fun e w' => e = .returned (.tuple #[.string (opStr op.toNat), .int .i64 (kA op.toNat), .int .i64 (kB op.toNat), .bool (kC op.toNat == 5)]) ∧ w1 = w') := fun w1 => by have := r38_form op w1; unfold formR at this; rw [if_pos h] at this; exact this
    have C1 : Hid (∀ w1, Calls Tryd.prog 91 #[.int .i64 (kA op.toNat), .int .i64 a] w1 fun e w' => e = .returned (.bool x) ∧ w1 = w') := fun w1 => by have := r38_field (kA op.toNat) a w1 (kA4 _) i1; rw [hx] at this; exact this
    have C2 : Hid (∀ w1, Calls Tryd.prog 91 #[.int .i64 (kB op.toNat), .int .i64 b] w1 fun e w' => e = .returned (.bool y) ∧ w1 = w') := fun w1 => by have := r38_field (kB op.toNat) b w1 (kB4 _) i2; rw [hy] at this; exact this
    have CI : Hid (∀ w1, Calls Tryd.prog 64 #[.int .i64 imm, .int .i64 (-8388608), .int .i64 8388608] w1 fun e w' => e = .returned (.bool (fitsK 5 imm)) ∧ w1 = w') := fun w1 => by
      have e5 : inB imm (-8388608) 8388608 = fitsK 5 imm := Bool.eq_iff_iff.2 (by simp [inB, fitsK])
      have := rf_In imm (-8388608) 8388608 w1; rw [e5] at this; exact this
    have hs1 : (opStr op.toNat).toList.isEmpty = false := by unfold opStr; split <;> decide +kernel
    have hs2 : ¬ (opStr op.toNat).toList = [] := fun e => by rw [e] at hs1; exact absurd hs1 (by decide)
    have hc : kC op.toNat = 5 ∨ kC op.toNat = 0 := by unfold kC; split <;> simp
    generalize opStr op.toNat = sw at hs1 hs2 C0
    generalize kA op.toNat = ka at C0 C1
    generalize kB op.toNat = kb at C0 C2
    generalize kC op.toNat = kc at hz hc C0
    clear hx hy fin h
    cases x with
    | false =>
      clear hz hc
      go_enter Tryd.func54, Tryd.ntmps54
      go_upto_region 1 with fail
      obtain ⟨bx0, hb0⟩ := entryI w ⟨op, a, b, imm⟩ _ rfl
      change Code.wp _ _ _ _ (w.alloc (.cells (Ins.cells ⟨op, a, b, imm⟩).toArray 24))
      generalize (w.alloc (.cells (Ins.cells ⟨op, a, b, imm⟩).toArray 24)) = W0 at bx0 hb0 ⊢
      obtain ⟨z0, z1, z2, z3⟩ := bx0.c4
      go_wp2_with (first
        | (go_at_call 88; (with_reducible refine (C0.out _).mono ?_); rintro e1 w1 ⟨rfl, rfl⟩)
        | (go_at_call 64; (with_reducible refine (CI.out _).mono ?_); rintro e1 w1 ⟨rfl, rfl⟩)
        | (go_at_call 91; first | ((with_reducible refine (C1.out _).mono ?_); rintro e1 w1 ⟨rfl, rfl⟩) | ((with_reducible refine (C2.out _).mono ?_); rintro e1 w1 ⟨rfl, rfl⟩)))
      all_goals go_ret
      all_goals first | exact ⟨rfl, hb0⟩
    | true =>
      cases y with
      | false =>
        clear hz hc
        go_enter Tryd.func54, Tryd.ntmps54
        go_upto_region 1 with fail
        obtain ⟨bx0, hb0⟩ := entryI w ⟨op, a, b, imm⟩ _ rfl
        change Code.wp _ _ _ _ (w.alloc (.cells (Ins.cells ⟨op, a, b, imm⟩).toArray 24))
        generalize (w.alloc (.cells (Ins.cells ⟨op, a, b, imm⟩).toArray 24)) = W0 at bx0 hb0 ⊢
        obtain ⟨z0, z1, z2, z3⟩ := bx0.c4
        go_wp2_with (first
          | (go_at_call 88; (with_reducible refine (C0.out _).mono ?_); rintro e1 w1 ⟨rfl, rfl⟩)
          | (go_at_call 64; (with_reducible refine (CI.out _).mono ?_); rintro e1 w1 ⟨rfl, rfl⟩)
          | (go_at_call 91; first | ((with_reducible refine (C1.out _).mono ?_); rintro e1 w1 ⟨rfl, rfl⟩) | ((with_reducible refine (C2.out _).mono ?_); rintro e1 w1 ⟨rfl, rfl⟩)))
        all_goals go_ret
        all_goals first | exact ⟨rfl, hb0⟩
      | true =>
        rcases hc with rfl | rfl
        · subst hz
          generalize fitsK 5 imm = z at CI ⊢
          cases z with
          | false =>
            go_enter Tryd.func54, Tryd.ntmps54
            go_upto_region 1 with fail
            obtain ⟨bx0, hb0⟩ := entryI w ⟨op, a, b, imm⟩ _ rfl
            change Code.wp _ _ _ _ (w.alloc (.cells (Ins.cells ⟨op, a, b, imm⟩).toArray 24))
            generalize (w.alloc (.cells (Ins.cells ⟨op, a, b, imm⟩).toArray 24)) = W0 at bx0 hb0 ⊢
            obtain ⟨z0, z1, z2, z3⟩ := bx0.c4
            go_wp2_with (first
              | (go_at_call 88; (with_reducible refine (C0.out _).mono ?_); rintro e1 w1 ⟨rfl, rfl⟩)
              | (go_at_call 64; (with_reducible refine (CI.out _).mono ?_); rintro e1 w1 ⟨rfl, rfl⟩)
              | (go_at_call 91; first | ((with_reducible refine (C1.out _).mono ?_); rintro e1 w1 ⟨rfl, rfl⟩) | ((with_reducible refine (C2.out _).mono ?_); rintro e1 w1 ⟨rfl, rfl⟩)))
            all_goals go_ret
            all_goals first | exact ⟨rfl, hb0⟩
          | true =>
            go_enter Tryd.func54, Tryd.ntmps54
            go_upto_region 1 with fail
            obtain ⟨bx0, hb0⟩ := entryI w ⟨op, a, b, imm⟩ _ rfl
            change Code.wp _ _ _ _ (w.alloc (.cells (Ins.cells ⟨op, a, b, imm⟩).toArray 24))
            generalize (w.alloc (.cells (Ins.cells ⟨op, a, b, imm⟩).toArray 24)) = W0 at bx0 hb0 ⊢
            obtain ⟨z0, z1, z2, z3⟩ := bx0.c4
            go_wp2_with (first
              | (go_at_call 88; (with_reducible refine (C0.out _).mono ?_); rintro e1 w1 ⟨rfl, rfl⟩)
              | (go_at_call 64; (with_reducible refine (CI.out _).mono ?_); rintro e1 w1 ⟨rfl, rfl⟩)
              | (go_at_call 91; first | ((with_reducible refine (C1.out _).mono ?_); rintro e1 w1 ⟨rfl, rfl⟩) | ((with_reducible refine (C2.out _).mono ?_); rintro e1 w1 ⟨rfl, rfl⟩)))
            all_goals go_ret
            all_goals first | exact ⟨rfl, hb0⟩
        · subst hz
          have e0 : fitsK 0 imm = (imm == 0) := rfl
          rw [e0]
          go_enter Tryd.func54, Tryd.ntmps54
          go_upto_region 1 with fail
          obtain ⟨bx0, hb0⟩ := entryI w ⟨op, a, b, imm⟩ _ rfl
          change Code.wp _ _ _ _ (w.alloc (.cells (Ins.cells ⟨op, a, b, imm⟩).toArray 24))
          generalize (w.alloc (.cells (Ins.cells ⟨op, a, b, imm⟩).toArray 24)) = W0 at bx0 hb0 ⊢
          obtain ⟨z0, z1, z2, z3⟩ := bx0.c4
          go_wp2_with (first
            | (go_at_call 88; (with_reducible refine (C0.out _).mono ?_); rintro e1 w1 ⟨rfl, rfl⟩)
            | (go_at_call 64; (with_reducible refine (CI.out _).mono ?_); rintro e1 w1 ⟨rfl, rfl⟩)
            | (go_at_call 91; first | ((with_reducible refine (C1.out _).mono ?_); rintro e1 w1 ⟨rfl, rfl⟩) | ((with_reducible refine (C2.out _).mono ?_); rintro e1 w1 ⟨rfl, rfl⟩)))
          all_goals go_ret
          all_goals first | exact ⟨rfl, hb0⟩
  · refine fin false (by unfold Ins.formed; rw [decide_eq_false h]; rfl) ?_
    have C0 : Hid (∀ w1, Calls Tryd.prog 88 #[.int .i64 op] w1 fun e w' => e = .returned (.tuple #[.string ⟨#[]⟩, .int .i64 0, .int .i64 0, .bool false]) ∧ w1 = w') := fun w1 => by have := r38_form op w1; unfold formR at this; rw [if_neg h] at this; exact this
    clear fin h
    go_enter Tryd.func54, Tryd.ntmps54
    go_wp2_with (go_at_call 88; (with_reducible refine (C0.out _).mono ?_); rintro e1 w1 ⟨rfl, rfl⟩)
    go_ret
    exact ⟨rfl, (Below.refl _ _).alloc (Nat.le_refl _) _⟩
end Go.Proofs.YtgdccmmcjicgkaaDoor
