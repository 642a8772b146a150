/- Several texts in one: E3 E5 E6 L1. -/
import Derived.Test.YtpdpcgeeneajjaaDoorsE2toT4
import Derived.Lib.ItoaLen
set_option linter.unusedVariables false
set_option linter.unusedSimpArgs false
section
namespace Go.Proofs.YtpdpcgeeneajjaaDoor
open Go.RowKit
def opStr : Nat → ByteArray
  | 0 => ⟨#[104, 97, 108, 116]⟩
  | 1 => ⟨#[99, 108, 101, 97, 114]⟩
  | 2 => ⟨#[109, 97, 99]⟩
  | 3 => ⟨#[109, 97, 99, 109]⟩
  | 4 => ⟨#[109, 97, 99, 99]⟩
  | 5 => ⟨#[114, 111, 117, 110, 100]⟩
  | 6 => ⟨#[108, 111, 97, 100]⟩
  | 7 => ⟨#[115, 116, 111, 114, 101]⟩
  | 8 => ⟨#[112, 117, 115, 104]⟩
  | 9 => ⟨#[105, 110]⟩
  | 10 => ⟨#[111, 117, 116]⟩
  | _ => ⟨#[109, 111, 118, 101]⟩
def formR (op : Int) : Value :=
  if 0 ≤ op ∧ op < 12 then .tuple #[.string (opStr op.toNat), .int .i64 (kA op.toNat), .int .i64 (kB op.toNat), .bool (kC op.toNat == 5)] else .tuple #[.string ⟨#[]⟩, .int .i64 0, .int .i64 0, .bool false]
set_option maxRecDepth 100000 in
theorem r38_form (op : Int) (w : World) : Calls Tryd.prog 37 #[.int .i64 op] w fun e w' => e = .returned (formR op) ∧ w = w' := by
  by_cases h : 0 ≤ op ∧ op < 12
  · unfold formR
    rw [if_pos h]
    obtain ⟨h0, h1⟩ := h
    obtain rfl | rfl | rfl | rfl | rfl | rfl | rfl | rfl | rfl | rfl | rfl | rfl : op = 0 ∨ op = 1 ∨ op = 2 ∨ op = 3 ∨ op = 4 ∨ op = 5 ∨ op = 6 ∨ op = 7 ∨ op = 8 ∨ op = 9 ∨ op = 10 ∨ op = 11 := by omega
    all_goals
      clear h0 h1
      go_enter Tryd.func37, Tryd.ntmps37
      go_wp2_with fail
      refine bodyPost_ret (results_tmp4 rfl _ _ _) rfl ?_
      exact ⟨rfl, rfl⟩
  · unfold formR
    rw [if_neg h]
    have n0 : (op == 0) = false := by simp; omega
    have n1 : (op == 1) = false := by simp; omega
    have n2 : (op == 2) = false := by simp; omega
    have n3 : (op == 3) = false := by simp; omega
    have n4 : (op == 4) = false := by simp; omega
    have n5 : (op == 5) = false := by simp; omega
    have n6 : (op == 6) = false := by simp; omega
    have n7 : (op == 7) = false := by simp; omega
    have n8 : (op == 8) = false := by simp; omega
    have n9 : (op == 9) = false := by simp; omega
    have n10 : (op == 10) = false := by simp; omega
    have n11 : (op == 11) = false := by simp; omega
    clear h
    go_enter Tryd.func37, Tryd.ntmps37
    go_wp2_with fail
    refine bodyPost_ret (results_tmp4 rfl _ _ _) rfl ?_
    exact ⟨rfl, rfl⟩
theorem r38_field (k v : Int) (w : World) (hk : 0 ≤ k ∧ k ≤ 4) (hv : I64 v) : Calls Tryd.prog 42 #[.int .i64 k, .int .i64 v] w fun e w' => e = .returned (.bool (fitsK k v)) ∧ w = w' := by
  have CI : Hid (∀ hi w1, Calls Tryd.prog 43 #[.int .i64 v, .int .i64 0, .int .i64 hi] w1 fun e w' => e = .returned (.bool (inB v 0 hi)) ∧ w1 = w') := fun hi w1 => rf_In v 0 hi w1
  have e7 : inB v 0 7 = fitsK 1 v := Bool.eq_iff_iff.2 (by simp [inB, fitsK]; omega)
  have e3 : fitsK 3 v = fitsK 1 v := rfl
  have e9 : inB v 0 127 = fitsK 2 v := Bool.eq_iff_iff.2 (by simp [inB, fitsK]; omega)
  have e4 : fitsK 4 v = fitsK 2 v := rfl
  have e0 : fitsK 0 v = (v == 0) := rfl
  obtain rfl | rfl | rfl | rfl | rfl : k = 0 ∨ k = 1 ∨ k = 2 ∨ k = 3 ∨ k = 4 := by omega
  all_goals
    try rw [e3]
    try rw [e4]
    try rw [e0]
    try rw [← e7]
    try rw [← e9]
    clear hk e7 e3 e9 e4 e0 hv
    go_enter Tryd.func42, Tryd.ntmps42
    go_wp2_with (go_at_call 43; (with_reducible refine (CI.out _ _).mono ?_); rintro e1 w1 ⟨rfl, rfl⟩)
    go_ret
    exact ⟨rfl, rfl⟩
set_option maxRecDepth 100000 in
set_option maxHeartbeats 4000000 in
theorem r38_Formed (i : Ins) (w : World) (hi : i.ok) : Calls Tryd.prog 22 #[i.v] w fun e w' => e = .returned (.bool i.formed) ∧ Below w.heap.size w w' := by
  obtain ⟨op, a, b, imm⟩ := i
  obtain ⟨i0, i1, i2, i3⟩ := hi
  simp only at i0 i1 i2 i3
  have fin : ∀ (c : Bool), Ins.formed ⟨op, a, b, imm⟩ = c → Calls Tryd.prog 22 #[.agg #[.int .i64 op, .int .i64 a, .int .i64 b, .int .i64 imm]] w (fun e w' => e = .returned (.bool c) ∧ Below w.heap.size w w') → Calls Tryd.prog 22 #[Ins.v ⟨op, a, b, imm⟩] w fun e w' => e = .returned (.bool (Ins.formed ⟨op, a, b, imm⟩)) ∧ Below w.heap.size w w' := fun c h1 h2 => by rw [h1]; exact h2
  by_cases h : 0 ≤ op ∧ op < 12
  · obtain ⟨x, hx⟩ : ∃ x, fitsK (kA op.toNat) a = x := ⟨_, rfl⟩
    obtain ⟨y, hy⟩ : ∃ x, fitsK (kB op.toNat) b = x := ⟨_, rfl⟩
    obtain ⟨z, hz⟩ : ∃ x, fitsK (kC op.toNat) imm = x := ⟨_, rfl⟩
    refine fin (x && (y && z)) (by unfold Ins.formed; rw [hx, hy, hz, decide_eq_true h, Bool.true_and, Bool.and_assoc]) ?_
    have C0 : Hid (∀ w1, Calls Tryd.prog 37 #[.int .i64 op] w1 fun e w' => e = .returned (.tuple #[.string (opStr op.toNat), .int .i64 (kA op.toNat), .int .i64 (kB op.toNat), .bool (kC op.toNat == 5)]) ∧ w1 = w') := fun w1 => by have := r38_form op w1; unfold formR at this; rw [if_pos h] at this; exact this
    have C1 : Hid (∀ w1, Calls Tryd.prog 42 #[.int .i64 (kA op.toNat), .int .i64 a] w1 fun e w' => e = .returned (.bool x) ∧ w1 = w') := fun w1 => by have := r38_field (kA op.toNat) a w1 (kA4 _) i1; rw [hx] at this; exact this
    have C2 : Hid (∀ w1, Calls Tryd.prog 42 #[.int .i64 (kB op.toNat), .int .i64 b] w1 fun e w' => e = .returned (.bool y) ∧ w1 = w') := fun w1 => by have := r38_field (kB op.toNat) b w1 (kB4 _) i2; rw [hy] at this; exact this
    have CI : Hid (∀ w1, Calls Tryd.prog 43 #[.int .i64 imm, .int .i64 (-8388608), .int .i64 8388608] w1 fun e w' => e = .returned (.bool (fitsK 5 imm)) ∧ w1 = w') := fun w1 => by
      have e5 : inB imm (-8388608) 8388608 = fitsK 5 imm := Bool.eq_iff_iff.2 (by simp [inB, fitsK])
      have := rf_In imm (-8388608) 8388608 w1; rw [e5] at this; exact this
    have hs1 : (opStr op.toNat).toList.isEmpty = false := by unfold opStr; split <;> decide +kernel
    have hs2 : ¬ (opStr op.toNat).toList = [] := fun e => by rw [e] at hs1; exact absurd hs1 (by decide)
    have hc : kC op.toNat = 5 ∨ kC op.toNat = 0 := by unfold kC; split <;> simp
    generalize opStr op.toNat = sw at hs1 hs2 C0
    generalize kA op.toNat = ka at C0 C1
    generalize kB op.toNat = kb at C0 C2
    generalize kC op.toNat = kc at hz hc C0
    clear hx hy fin h
    cases x with
    | false =>
      clear hz hc
      go_enter Tryd.func22, Tryd.ntmps22
      go_upto_region 1 with fail
      obtain ⟨bx0, hb0⟩ := entryI w ⟨op, a, b, imm⟩ _ rfl
      change Code.wp _ _ _ _ (w.alloc (.cells (Ins.cells ⟨op, a, b, imm⟩).toArray 50))
      generalize (w.alloc (.cells (Ins.cells ⟨op, a, b, imm⟩).toArray 50)) = W0 at bx0 hb0 ⊢
      obtain ⟨z0, z1, z2, z3⟩ := bx0.c4
      go_wp2_with (first
        | (go_at_call 37; (with_reducible refine (C0.out _).mono ?_); rintro e1 w1 ⟨rfl, rfl⟩)
        | (go_at_call 43; (with_reducible refine (CI.out _).mono ?_); rintro e1 w1 ⟨rfl, rfl⟩)
        | (go_at_call 42; first | ((with_reducible refine (C1.out _).mono ?_); rintro e1 w1 ⟨rfl, rfl⟩) | ((with_reducible refine (C2.out _).mono ?_); rintro e1 w1 ⟨rfl, rfl⟩)))
      all_goals go_ret
      all_goals first | exact ⟨rfl, hb0⟩
    | true =>
      cases y with
      | false =>
        clear hz hc
        go_enter Tryd.func22, Tryd.ntmps22
        go_upto_region 1 with fail
        obtain ⟨bx0, hb0⟩ := entryI w ⟨op, a, b, imm⟩ _ rfl
        change Code.wp _ _ _ _ (w.alloc (.cells (Ins.cells ⟨op, a, b, imm⟩).toArray 50))
        generalize (w.alloc (.cells (Ins.cells ⟨op, a, b, imm⟩).toArray 50)) = W0 at bx0 hb0 ⊢
        obtain ⟨z0, z1, z2, z3⟩ := bx0.c4
        go_wp2_with (first
          | (go_at_call 37; (with_reducible refine (C0.out _).mono ?_); rintro e1 w1 ⟨rfl, rfl⟩)
          | (go_at_call 43; (with_reducible refine (CI.out _).mono ?_); rintro e1 w1 ⟨rfl, rfl⟩)
          | (go_at_call 42; first | ((with_reducible refine (C1.out _).mono ?_); rintro e1 w1 ⟨rfl, rfl⟩) | ((with_reducible refine (C2.out _).mono ?_); rintro e1 w1 ⟨rfl, rfl⟩)))
        all_goals go_ret
        all_goals first | exact ⟨rfl, hb0⟩
      | true =>
        rcases hc with rfl | rfl
        · subst hz
          generalize fitsK 5 imm = z at CI ⊢
          cases z with
          | false =>
            go_enter Tryd.func22, Tryd.ntmps22
            go_upto_region 1 with fail
            obtain ⟨bx0, hb0⟩ := entryI w ⟨op, a, b, imm⟩ _ rfl
            change Code.wp _ _ _ _ (w.alloc (.cells (Ins.cells ⟨op, a, b, imm⟩).toArray 50))
            generalize (w.alloc (.cells (Ins.cells ⟨op, a, b, imm⟩).toArray 50)) = W0 at bx0 hb0 ⊢
            obtain ⟨z0, z1, z2, z3⟩ := bx0.c4
            go_wp2_with (first
              | (go_at_call 37; (with_reducible refine (C0.out _).mono ?_); rintro e1 w1 ⟨rfl, rfl⟩)
              | (go_at_call 43; (with_reducible refine (CI.out _).mono ?_); rintro e1 w1 ⟨rfl, rfl⟩)
              | (go_at_call 42; first | ((with_reducible refine (C1.out _).mono ?_); rintro e1 w1 ⟨rfl, rfl⟩) | ((with_reducible refine (C2.out _).mono ?_); rintro e1 w1 ⟨rfl, rfl⟩)))
            all_goals go_ret
            all_goals first | exact ⟨rfl, hb0⟩
          | true =>
            go_enter Tryd.func22, Tryd.ntmps22
            go_upto_region 1 with fail
            obtain ⟨bx0, hb0⟩ := entryI w ⟨op, a, b, imm⟩ _ rfl
            change Code.wp _ _ _ _ (w.alloc (.cells (Ins.cells ⟨op, a, b, imm⟩).toArray 50))
            generalize (w.alloc (.cells (Ins.cells ⟨op, a, b, imm⟩).toArray 50)) = W0 at bx0 hb0 ⊢
            obtain ⟨z0, z1, z2, z3⟩ := bx0.c4
            go_wp2_with (first
              | (go_at_call 37; (with_reducible refine (C0.out _).mono ?_); rintro e1 w1 ⟨rfl, rfl⟩)
              | (go_at_call 43; (with_reducible refine (CI.out _).mono ?_); rintro e1 w1 ⟨rfl, rfl⟩)
              | (go_at_call 42; first | ((with_reducible refine (C1.out _).mono ?_); rintro e1 w1 ⟨rfl, rfl⟩) | ((with_reducible refine (C2.out _).mono ?_); rintro e1 w1 ⟨rfl, rfl⟩)))
            all_goals go_ret
            all_goals first | exact ⟨rfl, hb0⟩
        · subst hz
          have e0 : fitsK 0 imm = (imm == 0) := rfl
          rw [e0]
          go_enter Tryd.func22, Tryd.ntmps22
          go_upto_region 1 with fail
          obtain ⟨bx0, hb0⟩ := entryI w ⟨op, a, b, imm⟩ _ rfl
          change Code.wp _ _ _ _ (w.alloc (.cells (Ins.cells ⟨op, a, b, imm⟩).toArray 50))
          generalize (w.alloc (.cells (Ins.cells ⟨op, a, b, imm⟩).toArray 50)) = W0 at bx0 hb0 ⊢
          obtain ⟨z0, z1, z2, z3⟩ := bx0.c4
          go_wp2_with (first
            | (go_at_call 37; (with_reducible refine (C0.out _).mono ?_); rintro e1 w1 ⟨rfl, rfl⟩)
            | (go_at_call 43; (with_reducible refine (CI.out _).mono ?_); rintro e1 w1 ⟨rfl, rfl⟩)
            | (go_at_call 42; first | ((with_reducible refine (C1.out _).mono ?_); rintro e1 w1 ⟨rfl, rfl⟩) | ((with_reducible refine (C2.out _).mono ?_); rintro e1 w1 ⟨rfl, rfl⟩)))
          all_goals go_ret
          all_goals first | exact ⟨rfl, hb0⟩
  · refine fin false (by unfold Ins.formed; rw [decide_eq_false h]; rfl) ?_
    have C0 : Hid (∀ w1, Calls Tryd.prog 37 #[.int .i64 op] w1 fun e w' => e = .returned (.tuple #[.string ⟨#[]⟩, .int .i64 0, .int .i64 0, .bool false]) ∧ w1 = w') := fun w1 => by have := r38_form op w1; unfold formR at this; rw [if_neg h] at this; exact this
    clear fin h
    go_enter Tryd.func22, Tryd.ntmps22
    go_wp2_with (go_at_call 37; (with_reducible refine (C0.out _).mono ?_); rintro e1 w1 ⟨rfl, rfl⟩)
    go_ret
    exact ⟨rfl, (Below.refl _ _).alloc (Nat.le_refl _) _⟩
end Go.Proofs.YtpdpcgeeneajjaaDoor
end
section
namespace Go.Proofs.YtpdpcgeeneajjaaDoor
open Go.RowKit
def InsAt (w : World) (A : Option Addr) (l : List Ins) : Prop := ∀ (k : Nat) i, l[k]? = some i → ∃ ad, A = some ad ∧ ad.spot = none ∧ ad.block < w.heap.size ∧ w.rangeAt ad.block (ad.off + k * 4) i.cells ∧ i.ok
theorem range_keepI {w w' : World} {b o : Nat} {cs : List Value} {B : Nat} (h : w.rangeAt b o cs) (hb : b < B) (hB : Below B w w') : w'.rangeAt b o cs := fun j v hj => (hB.cell (p := ⟨b, o + j, none⟩) hb).trans (h j v hj)
theorem InsAt.grow {w w' : World} {A : Option Addr} {l : List Ins} (h : InsAt w A l) (hb : Below w.heap.size w w') : InsAt w' A l := fun k i hk => by
  obtain ⟨ad, e, h1, h2, h3, h4⟩ := h k i hk
  exact ⟨ad, e, h1, Nat.lt_of_lt_of_le h2 hb.size, range_keepI h3 h2 hb, h4⟩
theorem InsAt.ok {w : World} {A : Option Addr} {l : List Ins} (h : InsAt w A l) : ∀ i ∈ l, i.ok := fun i hi => by
  obtain ⟨k, hk⟩ := List.getElem?_of_mem hi
  obtain ⟨ad, -, -, -, -, h4⟩ := h k i hk
  exact h4
theorem add_noneI {ad : Addr} {n : Nat} (h : ad.spot = none) : ad.add n = ⟨ad.block, ad.off + n, none⟩ := by
  obtain ⟨b, o, s⟩ := ad
  simp only at h
  subst h
  unfold Addr.add
  split
  · rename_i e; subst e; rfl
  · rfl
theorem row_ins : ∃ d, Tryd.prog.underlying 50 = some d ∧ d.isRow = true := ⟨_, Tryd.underlying50, rfl⟩
theorem size_ins : (Tryd.prog.info? 50).map (·.size) = some 4 := by kernel_rfl
theorem ld_insA {ops : Array Oper} {rest : List Oper} {o : Oper} {a : Act} {Q : Exit → Act → World → Prop} {w : World} {i : Ins} {ad : Addr} {n : Nat} (hs : ad.spot = none) (hr : w.rangeAt ad.block (ad.off + n) i.cells) (hgd : o.guard = none) (x : Operand) (ho : o.op = .load 50 x) (hx : a.eval x = .pointer (some (ad.add n))) (h : wpList Tryd.prog ops Q rest (a.put o.dst i.v) w) : wpList Tryd.prog ops Q (o :: rest) a w := by
  obtain ⟨d, h1, h2⟩ := row_ins
  rw [add_noneI hs] at hx
  exact wpList_load_mid hgd _ x ho ad.block (ad.off + n) hx i.cells d hr h1 h2 size_ins h
theorem ld_ins {ops : Array Oper} {rest : List Oper} {o : Oper} {a : Act} {Q : Exit → Act → World → Prop} {w : World} {i : Ins} {g : Nat} (hb : Box w g i.cells) (hgd : o.guard = none) (x : Operand) (ho : o.op = .load 50 x) (hx : a.eval x = .pointer (some ⟨g, 0, none⟩)) (h : wpList Tryd.prog ops Q rest (a.put o.dst i.v) w) : wpList Tryd.prog ops Q (o :: rest) a w := by
  obtain ⟨d, h1, h2⟩ := row_ins
  exact wp_ld hgd _ x ho g 0 hx hb i.cells (fun j v hj => by rw [Nat.zero_add]; exact hj) d h1 h2 size_ins h
theorem st_ins {ops : Array Oper} {rest : List Oper} {o : Oper} {a : Act} {Q : Exit → Act → World → Prop} {w : World} {i j : Ins} {g : Nat} (hb : Box w g i.cells) (hgd : o.guard = none) (x y : Operand) (ho : o.op = .store 50 x y) (hx : a.eval x = .pointer (some ⟨g, 0, none⟩)) (hy : a.eval y = j.v)
    (h : ∀ W1, Box W1 g j.cells → w.grownBy W1 (some g) → wpList Tryd.prog ops Q rest (a.put o.dst undef) W1) : wpList Tryd.prog ops Q (o :: rest) a w :=
  wp_st hgd _ x y ho g 0 j.cells hx hy size_ins rfl hb (by show 0 + 4 ≤ 4; omega) rfl h
def Ins.zero : Ins := ⟨0, 0, 0, 0⟩
end Go.Proofs.YtpdpcgeeneajjaaDoor
end
section
namespace Go.Proofs.YtpdpcgeeneajjaaDoor
open Go.RowKit
def encE (l : List Ins) : Int := if 512 < l.length then 5 else if l.all Ins.formed then 0 else 21
def Ins.bytes (i : Ins) : List Int := [i.op % 256, i.a % 256, i.b % 256, 0, i.imm % 4294967296 % 256, i.imm % 4294967296 / 256 % 256, i.imm % 4294967296 / 65536 % 256, i.imm % 4294967296 / 16777216 % 256]
def encB (l : List Ins) : List Int := if encE l = 0 then l.flatMap Ins.bytes else []
theorem bytes_len : ∀ (l : List Ins), (l.flatMap Ins.bytes).length = 8 * l.length
  | [] => rfl
  | i :: l => by rw [List.flatMap_cons, List.length_append, bytes_len l]; show 8 + _ = _; simp; omega
theorem info_byte : (Tryd.prog.info? 5).map (fun i => (i.zero, i.size, i.bytes)) = some (some (.int .u8 0), 1, 1) := by kernel_rfl
def OwnBy (base : Nat) (w : World) (v : Value) (l : List Int) : Prop := w.ownsRow base 5 1 v l.length (l.map (Value.int .u8))
theorem OwnBy.grow {base : Nat} {w w' : World} {v : Value} {l : List Int} (h : OwnBy base w v l) (hb : Below w.heap.size w w') : OwnBy base w' v l := own_grow h hb
theorem mk_byte0 {ops : Array Oper} {rest : List Oper} {o : Oper} {a : Act} {Q : Exit → Act → World → Prop} {w : World} (hg : o.guard = none) (s c : Operand) (hop : o.op = Op.makeSlice 22 s c)
    (base n : Nat) {N : Int} (hs : a.eval s = .int .i64 0) (hc : a.eval c = .int .i64 N) (hN : N = (n : Int)) (hn : n ≤ 100000000) (hb : base ≤ w.heap.size)
    (h : ∀ w', OwnBy base w' (.slice (some ⟨w.heap.size, 0, none⟩) 0 n) [] → Below w.heap.size w w' → wpList Tryd.prog ops Q rest (a.put o.dst (.slice (some ⟨w.heap.size, 0, none⟩) 0 n)) w') :
    wpList Tryd.prog ops Q (o :: rest) a w := by
  subst hN
  obtain ⟨i0, hi, hz0, hz1, hz2⟩ := info_parts info_byte
  refine wpList_make_own w hg s c 22 hop base 5 i0 (.int .u8 0) 1 Tryd.underlying22 hi hz0 hz1 .i64 .i64 n n hs hc rfl (by rw [hz2]; omega) (by unfold maxLen; omega) hb fun w' h1 h2 => h w' h1 ((Below.refl _ _).grown h2 (Nat.le_refl _) (by intro k hk; cases hk))
theorem app_bytes {ops : Array Oper} {rest : List Oper} {o : Oper} {a : Act} {Q : Exit → Act → World → Prop} (w : World) (hg : o.guard = none) (s x : Operand) (ho : o.op = .call { callee := .builtin .append, args := #[s, x], argTypes := #[22, 22] })
    (base : Nat) {v : Value} {l m : List Int} {q n c : Nat} (hs : a.eval s = v) (hx : a.eval x = .slice (some ⟨q, 0, none⟩) n c) (hown : OwnBy base w v l) (hm : m.length = n) (hb : Box w q (m.map (Value.int .u8))) (hn : l.length + n ≤ 100000000) (hbase : base ≤ w.heap.size)
    (h : ∀ v' w', OwnBy base w' v' (l ++ m) → w.grownBy w' v.ownBlock → wpList Tryd.prog ops Q rest (a.put o.dst v') w') : wpList Tryd.prog ops Q (o :: rest) a w := by
  subst hm
  refine app_row w hg s x 22 5 (.int .u8 0) 1 1 ho Tryd.underlying22 info_byte rfl (by decide) (by decide) base hs hx hown (ys := m.map (Value.int .u8)) (by simp) (fun j u hj => ⟨_, rfl, ?_⟩) (fun u hu => by obtain ⟨x, _, rfl⟩ := List.mem_map.1 hu; rfl) hn hbase fun v' w' h1 h2 h3 => h v' w' ?_ h2
  · rw [add_cellsB]; exact (hb.2.1 j).trans hj
  · show w'.ownsRow _ _ _ _ _ _
    rw [List.map_append, List.length_append]
    exact h1
set_option maxRecDepth 100000 in
set_option maxHeartbeats 4000000 in
theorem pr_Encode (A : Option Addr) (n c : Nat) (l : List Ins) (w : World) (hf : FormsAt w) (h : InsAt w A l) (hn : l.length = n) (h9 : n ≤ 9223372036854775807) : Calls Tryd.prog 13 #[.slice A n c] w fun e w' => (∃ v, e = .returned (.tuple #[v, .int .i64 (encE l)]) ∧ OwnBy w.heap.size w' v (encB l)) ∧ Below w.heap.size w w' := by
  have HI := Lib.hid h
  have HN := Lib.hid hn
  have HF := Lib.hid hf
  clear h hn hf
  by_cases h0 : (512 : Int) < (n : Int)
  · have e1 : encE l = 5 := by unfold encE; rw [if_pos (by rw [HN.out]; omega)]
    have e2 : encB l = [] := by unfold encB; rw [e1]; rfl
    rw [e1, e2]
    clear e1 e2
    go_enter Tryd.func13, Tryd.ntmps13
    go_wp2_with fail
    go_ret2
    exact ⟨⟨_, rfl, World.ownsRow_nil _ _ _ _⟩, Below.refl _ _⟩
  · have e1 : encE l = if l.all Ins.formed then 0 else 21 := by unfold encE; rw [if_neg (by rw [HN.out]; omega)]
    obtain ⟨E, hE⟩ : ∃ E, encE l = E := ⟨_, rfl⟩
    have HE := Lib.hid e1
    have HEE := Lib.hid hE
    rw [hE]
    clear e1 hE
    have hn512 : (n : Int) ≤ 512 := by omega
    have hw8 : IntKind.i64.wrap (8 * (n : Int)) = 8 * (n : Int) := IntWalk.i64_in _ (by omega)
    go_enter Tryd.func13, Tryd.ntmps13
    go_upto_region 4 with ((with_reducible show wpList _ _ _ (Oper.mk (some 14) _ _ _ _ _ :: _) _ _); refine mk_byte0 rfl _ _ rfl w.heap.size (8 * n) rfl rfl (by omega) (by omega) (Nat.le_refl _) ?_; intro w1 ho1 hb1)
    have HO1 := Lib.hid ho1
    have HB1 := Lib.hid hb1
    generalize (Value.slice (some ⟨w.heap.size, 0, none⟩) 0 (8 * n)) = v0 at HO1 ⊢
    clear ho1 hb1 hw8
    go_wp2_with fail
    go_loopw [4, 17] (fun v i wr => ∃ (k : Nat) (bs : List Int), k ≤ n ∧ i = .int .i64 k ∧ Hid ((l.take k).all Ins.formed = true) ∧ Hid (bs = (l.take k).flatMap Ins.bytes) ∧ Hid (OwnBy w.heap.size wr v bs) ∧ Hid (Below w.heap.size w wr)) (fun _ i _ => n - (intOf i).toNat)
    case atStart => exact ⟨0, [], Nat.zero_le _, rfl, Lib.hid rfl, Lib.hid rfl, HO1, HB1⟩
    case round =>
      obtain ⟨k, bs, hk, rfl, HT, HBS, HO, HB⟩ := hrel
      by_cases hlt : k < n
      · obtain ⟨i, hi⟩ : ∃ i, l[k]? = some i := ⟨_, List.getElem?_eq_getElem (by rw [HN.out]; exact hlt)⟩
        obtain ⟨ad, rfl, hs, hb, hr, hok⟩ := (HI.out.grow HB.out) k i hi
        have HS := Lib.hid hs
        have HR := Lib.hid hr
        have q1 : (0 : Int) ≤ (k : Int) := by omega
        have q2 : (k : Int) < (n : Int) := by omega
        have HK := Lib.hid hi
        obtain ⟨x, hx⟩ : ∃ x, i.formed = x := ⟨_, rfl⟩
        have CF : Hid (∀ w1, Below wr.heap.size wr w1 → Calls Tryd.prog 21 #[i.v] w1 fun e w' => e = .returned (.bool x) ∧ Below w1.heap.size w1 w') := fun w1 hb => by
          have := pr_formed i w1 ((HF.out.grow HB.out).grow hb)
          rw [hx] at this; exact this
        have HX := Lib.hid hx
        clear hs hr hb hi hx
        go_upto_region 7 with (first
          | ((with_reducible show wpList _ _ _ (Oper.mk _ (.load _ _) _ _ _ _ :: _) _ _); refine ld_insA HS.out HR.out rfl _ rfl rfl ?_)
          | ((with_reducible show wpList _ _ _ (Oper.mk _ (.store _ _ _) _ _ _ _ :: _) _ _); refine st_ins (w := wr.alloc (.cells Ins.zero.cells.toArray 50)) (g := wr.heap.size) (i := Ins.zero) (j := i) (Box.new rfl) rfl _ _ rfl rfl rfl ?_; intro W2 b2 p2))
        have hb2 := put_facts ((Below.refl wr.heap.size wr).alloc (Nat.le_refl _) (.cells Ins.zero.cells.toArray 50)) (Nat.le_refl _) p2
        generalize wr.heap.size = g6 at b2 ⊢
        cases x with
        | false =>
          have hall : l.all Ins.formed = false := all_no HK.out HX.out
          go_wp2_with (first
            | ((with_reducible show wpList _ _ _ (Oper.mk _ (.load _ _) _ _ _ _ :: _) _ _); refine ld_ins b2 rfl _ rfl rfl ?_)
            | (go_at_call 21; (with_reducible refine (CF.out _ hb2).mono ?_); rintro e1 w3 ⟨rfl, hb3⟩))
          go_ret2
          have he : E = 21 := by rw [← HEE.out, HE.out, hall]; rfl
          subst he
          exact ⟨⟨_, rfl, by rw [show encB l = [] by unfold encB; rw [HE.out, hall]; rfl]; exact World.ownsRow_nil _ _ _ _⟩, below_then HB.out (below_then hb2 hb3)⟩
        | true =>
          go_upto_region 9 with (first
            | ((with_reducible show wpList _ _ _ (Oper.mk _ (.load _ _) _ _ _ _ :: _) _ _); refine ld_ins b2 rfl _ rfl rfl ?_)
            | (go_at_call 21; (with_reducible refine (CF.out _ hb2).mono ?_); rintro e1 w3 ⟨rfl, hb3⟩))
          obtain ⟨z0, z1, z2, z3⟩ := (Box.keep b2 hb3).c4
          have hb13 := below_then hb2 hb3
          go_upto_region 10 with fail
          obtain ⟨U, hU⟩ : ∃ U, i.imm % 4294967296 = U := ⟨_, rfl⟩
          have HMM : Hid (i.bytes = [i.op % 256, i.a % 256, i.b % 256, 0, U % 256, U / 256 % 256, U / 65536 % 256, U / 16777216 % 256]) := by show _ = _; unfold Ins.bytes; rw [hU]
          rw [hU]
          clear hU
          have HB3 := Lib.hid (below_then HB.out hb13)
          have HO3 := Lib.hid (HO.out.grow hb13)
          have HLN : Hid (bs.length + 8 ≤ 100000000) := by
            show _ ≤ _
            rw [HBS.out, bytes_len, List.length_take]; omega
          have HSZ : Hid (w.heap.size ≤ (w3.alloc (.cells ([i.op % 256, i.a % 256, i.b % 256, 0, U % 256, U / 256 % 256, U / 65536 % 256, U / 16777216 % 256].map (Value.int .u8)).toArray 5)).heap.size) := by
            have := HB3.out.size; show _ ≤ _; simp; omega
          have HAL : Hid (Below w3.heap.size w3 (w3.alloc (.cells ([i.op % 256, i.a % 256, i.b % 256, 0, U % 256, U / 256 % 256, U / 65536 % 256, U / 16777216 % 256].map (Value.int .u8)).toArray 5))) := (Below.refl _ _).alloc (Nat.le_refl _) _
          have HBX : Hid (Box (w3.alloc (.cells ([i.op % 256, i.a % 256, i.b % 256, 0, U % 256, U / 256 % 256, U / 65536 % 256, U / 16777216 % 256].map (Value.int .u8)).toArray 5)) w3.heap.size ([i.op % 256, i.a % 256, i.b % 256, 0, U % 256, U / 256 % 256, U / 65536 % 256, U / 16777216 % 256].map (Value.int .u8))) := Box.new rfl
          have HO4 := Lib.hid (HO3.out.grow HAL.out)
          have HBW : Hid (∀ b, u4.ownBlock = some b → w.heap.size ≤ b) := fun b hb => ((show World.ownsRow _ _ _ _ _ _ _ from HO.out).lt b hb).1
          go_upto_region 11 with ((with_reducible show wpList _ _ _ (Oper.mk (some 49) _ _ _ _ _ :: _) _ _); refine app_bytes _ rfl _ _ rfl w.heap.size (v := u4) (l := bs) (q := w3.heap.size) (n := 8) (c := 8) (m := [i.op % 256, i.a % 256, i.b % 256, 0, U % 256, U / 256 % 256, U / 65536 % 256, U / 16777216 % 256]) rfl rfl HO4.out rfl HBX.out HLN.out HSZ.out ?_; intro v5 w5 ho5 hg5)
          have wk : IntKind.i64.wrap ((k : Int) + 1) = ((k + 1 : Nat) : Int) := (IntWalk.i64_in _ (by omega)).trans (by omega)
          have HB5 := Lib.hid ((below_then HB3.out HAL.out).grown hg5 (below_then HB3.out HAL.out).size HBW.out)
          have HO5 : Hid (OwnBy w.heap.size w5 v5 (bs ++ i.bytes)) := by show OwnBy _ _ _ _; rw [HMM.out]; exact ho5
          clear ho5 hg5
          go_wp2_with fail
          go_roundw
          case rel => exact ⟨k + 1, bs ++ i.bytes, by omega, rfl, Lib.hid (by show _ = _; rw [take_succ_all HK.out, HT.out, HX.out]; rfl), Lib.hid (by show _ = _; rw [HBS.out, take_snoc' HK.out, List.flatMap_append]; simp), HO5, HB5⟩
          case measure => simp [intOf]; omega
      · obtain rfl : k = n := by omega
        have hlo : ¬ (k : Int) < (k : Int) := by omega
        have ht : l.all Ins.formed = true := by have := HT.out; rwa [← HN.out, List.take_length] at this
        go_wp2_with fail
        go_ret2
        have he : E = 0 := by rw [← HEE.out, HE.out, ht]; rfl
        subst he
        exact ⟨⟨_, rfl, by rw [show encB l = l.flatMap Ins.bytes by unfold encB; rw [HE.out, ht]; rfl]; have := HO.out; rw [HBS.out, ← HN.out, List.take_length] at this; exact this⟩, HB.out⟩
end Go.Proofs.YtpdpcgeeneajjaaDoor
end
section
namespace Go.Proofs.YtpdpcgeeneajjaaDoor
open Go.RowKit
def str (l : List UInt8) : ByteArray := ⟨l.toArray⟩
theorem str_add (a b : List UInt8) : str a ++ str b = str (a ++ b) := ByteArray.mk_append_mk a b
theorem str_size (l : List UInt8) : (str l).size = l.length := by simp [str, ByteArray.size]
theorem str_eq {s : ByteArray} {l : List UInt8} (h : s.data.toList = l) : s = str l := by
  subst h; rfl
def letB (k : Int) : List UInt8 := if k = 1 then [114] else if k = 2 then [109] else if k = 3 then [99] else []
def partB (k v : Int) : List UInt8 := if k = 0 then [] else [32] ++ letB k ++ Lib.itoa v
def lineB (i : Ins) : List UInt8 := (opStr i.op.toNat).data.toList ++ partB (kA i.op.toNat) i.a ++ partB (kB i.op.toNat) i.b ++ partB (kC i.op.toNat) i.imm
theorem itoa_len {v : Int} (h : I64 v) : (Lib.itoa v).length ≤ 21 := Lib.itoa_length_le v h.1 h.2
theorem letB_len (k : Int) : (letB k).length ≤ 1 := by
  unfold letB; split
  · decide
  · split
    · decide
    · split <;> decide
theorem partB_len (k : Int) {v : Int} (h : I64 v) : (partB k v).length ≤ 23 := by
  have h1 := itoa_len h
  have h2 := letB_len k
  unfold partB
  split
  · simp
  · simp only [List.length_append, List.length_singleton]; omega
theorem opStr_len (k : Nat) : (opStr k).data.toList.length ≤ 5 := by unfold opStr; split <;> decide
theorem lineB_len {i : Ins} (h : i.ok) : (lineB i).length ≤ 80 := by
  have h1 := partB_len (kA i.op.toNat) h.2.1
  have h2 := partB_len (kB i.op.toNat) h.2.2.1
  have h3 := partB_len (kC i.op.toNat) h.2.2.2
  have h4 := opStr_len i.op.toNat
  unfold lineB
  simp only [List.length_append]; omega
theorem itoa_small {v : Int} (h0 : 0 ≤ v) (h : v < 10) : Lib.itoa v = [UInt8.ofNat (48 + v.toNat)] := by
  unfold Lib.itoa
  rw [if_neg (by omega), Lib.decDigits_one (by omega)]
theorem itoa_ten {v : Int} (h : 9 < v) : Lib.itoa v = Lib.itoa (v / 10) ++ Lib.itoa (v % 10) := by
  obtain ⟨u, rfl⟩ : ∃ u : Nat, v = u := ⟨v.toNat, by omega⟩
  have e1 : Lib.itoa (u : Int) = Lib.decDigits u := Lib.itoa_nonneg u
  have e2 : Lib.itoa ((u : Int) / 10) = Lib.decDigits (u / 10) := by
    have := Lib.itoa_nonneg (u / 10)
    rwa [show ((u / 10 : Nat) : Int) = (u : Int) / 10 by omega] at this
  have e3 : Lib.itoa ((u : Int) % 10) = Lib.decDigits (u % 10) := by
    have := Lib.itoa_nonneg (u % 10)
    rwa [show ((u % 10 : Nat) : Int) = (u : Int) % 10 by omega] at this
  rw [e1, e2, e3, Lib.decDigits, dif_neg (by omega), Lib.decDigits_one (i := u % 10) (by omega)]
theorem itoa_minus {v : Int} (h : v < 0) : Lib.itoa v = [45] ++ Lib.itoa (-v) := by
  obtain ⟨u, rfl⟩ : ∃ u : Nat, v = -(u : Int) := ⟨v.natAbs, by omega⟩
  rw [Lib.itoa_neg u (by omega), Int.neg_neg, Lib.itoa_nonneg]; rfl
set_option maxRecDepth 100000 in
set_option maxHeartbeats 2000000 in
theorem r38_DecN : ∀ (n : Nat) (v : Int) (w : World), 0 ≤ v → v ≤ n → v ≤ 4611686018427387904 → Calls Tryd.prog 39 #[.int .i64 v] w fun e w' => e = .returned (.string (str (Lib.itoa v))) ∧ Below w.heap.size w w' := by
  intro n
  induction n using Nat.strongRecOn with
  | _ n ih =>
    intro v w h0 hn h9
    have q1 : ¬ v < 0 := by omega
    by_cases h : 9 < v
    · have CD : Hid (∀ w1 (u : Int), 0 ≤ u → u < v → Calls Tryd.prog 39 #[.int .i64 u] w1 fun e w' => e = .returned (.string (str (Lib.itoa u))) ∧ Below w1.heap.size w1 w') := Lib.hid fun w1 u h1 h2 => ih (n - 1) (by omega) u w1 h1 (by omega) (by omega)
      have d1 : v.tdiv 10 = v / 10 := Int.tdiv_eq_ediv_of_nonneg h0
      have d2 : v.tmod 10 = v % 10 := Int.tmod_eq_emod_of_nonneg h0
      obtain ⟨q, hq⟩ : ∃ q, v / 10 = q := ⟨_, rfl⟩
      obtain ⟨r, hr⟩ : ∃ r, v % 10 = r := ⟨_, rfl⟩
      have hqv : 0 ≤ q ∧ q < v := by omega
      have hrv : 0 ≤ r ∧ r < v := by omega
      have wq : wrap64 q = q := by unfold wrap64; omega
      have wr : wrap64 r = r := by unfold wrap64; omega
      rw [hq] at d1
      rw [hr] at d2
      have HE : Hid (str (Lib.itoa q) ++ str (Lib.itoa r) = str (Lib.itoa v)) := by rw [str_add, ← hq, ← hr, ← itoa_ten h]; exact Lib.hid rfl
      have HQ := Lib.hid hqv
      have HR := Lib.hid hrv
      have hs1 : (str (Lib.itoa q)).size ≤ 100 := by rw [str_size]; have := itoa_len (v := q) ⟨by omega, by omega⟩; omega
      have hs2 : (str (Lib.itoa r)).size ≤ 100 := by rw [str_size]; have := itoa_len (v := r) ⟨by omega, by omega⟩; omega
      generalize str (Lib.itoa v) = sv at HE ⊢
      clear hq hr hqv hrv ih
      go_enter Tryd.func39, Tryd.ntmps39
      go_wp2_with (go_at_call 39; first
        | ((with_reducible refine (CD.out _ q HQ.out.1 HQ.out.2).mono ?_); rintro e1 w1 ⟨rfl, hb1⟩)
        | ((with_reducible refine (CD.out _ r HR.out.1 HR.out.2).mono ?_); rintro e2 w2 ⟨rfl, hb2⟩))
      go_ret
      exact ⟨congrArg (fun x => Ending.returned (.string x)) HE.out, below_then hb1 hb2⟩
    · have q2 : ¬ 9 < v := h
      have wv : IntKind.i64.wrap (48 + v) = 48 + v := IntWalk.i64_in _ (by omega)
      have hm : (48 + v) % 256 = 48 + v := by omega
      have HE := Lib.hid (itoa_small h0 (by omega))
      obtain ⟨B, hB⟩ : ∃ B : UInt8, B = UInt8.ofNat (48 + v.toNat) := ⟨_, rfl⟩
      have hBv : ((B.toNat : Nat) : Int) = 48 + v := by
        rw [hB]
        have : (UInt8.ofNat (48 + v.toNat)).toNat = (48 + v.toNat) % 256 := by simp
        rw [this]; omega
      have HB := Lib.hid hB
      have HBV := Lib.hid hBv
      have CV : Hid (∀ w1 : World, w1.cell? ⟨w.heap.size, 0, none⟩ = some (.int .u8 (48 + v)) → (convert 22 9 (.slice (some ⟨w.heap.size, 0, none⟩) 1 1)).run Tryd.prog w1 = .ok (.string (str (Lib.itoa v))) w1) := Lib.hid fun w1 hc => by
        have := Go.run_convert_bytes_back (P := Tryd.prog) w1 22 9 5 ⟨w.heap.size, 0, none⟩ 1 [B] Tryd.underlying22 Tryd.underlying5 Tryd.underlying9 (fun j hj => by
          obtain rfl : j = 0 := by simpa using hj
          simp only [List.getElem_cons_zero]
          rw [hBv]; exact hc)
        rw [HE.out, ← hB]
        exact this
      clear hB hBv ih h
      go_enter Tryd.func39, Tryd.ntmps39
      go_wp2
      rw [CV.out _ (by simp)]
      simp only [Result.andThen]
      rw [Oper.upon_value]
      go_wp2
      go_ret
      exact ⟨rfl, (Below.refl _ _).alloc (Nat.le_refl _) _⟩
set_option maxRecDepth 100000 in
set_option maxHeartbeats 2000000 in
theorem r38_Decimal (v : Int) (w : World) (h1 : -4611686018427387904 ≤ v) (h2 : v ≤ 4611686018427387904) : Calls Tryd.prog 39 #[.int .i64 v] w fun e w' => e = .returned (.string (str (Lib.itoa v))) ∧ Below w.heap.size w w' := by
  by_cases h : v < 0
  · have CD : Hid (∀ w1, Calls Tryd.prog 39 #[.int .i64 (-v)] w1 fun e w' => e = .returned (.string (str (Lib.itoa (-v)))) ∧ Below w1.heap.size w1 w') := Lib.hid fun w1 => r38_DecN (-v).toNat (-v) w1 (by omega) (by omega) (by omega)
    have HE : Hid (str [45] ++ str (Lib.itoa (-v)) = str (Lib.itoa v)) := by rw [str_add, ← itoa_minus h]; exact Lib.hid rfl
    have hs1 : (str (Lib.itoa (-v))).size ≤ 100 := by rw [str_size]; have := itoa_len (v := -v) ⟨by omega, by omega⟩; omega
    have wv : wrap64 (-v) = -v := by unfold wrap64; omega
    generalize str (Lib.itoa v) = sv at HE ⊢
    generalize str (Lib.itoa (-v)) = su at HE CD hs1
    go_enter Tryd.func39, Tryd.ntmps39
    go_wp2_with (go_at_call 39; (with_reducible refine (CD.out _).mono ?_); rintro e1 w1 ⟨rfl, hb1⟩)
    go_ret
    exact ⟨congrArg (fun x => Ending.returned (.string x)) HE.out, hb1⟩
  · exact r38_DecN v.toNat v w (by omega) (by omega) h2
set_option maxRecDepth 100000 in
set_option maxHeartbeats 2000000 in
theorem r38_part (k v : Int) (w : World) (hk : 0 ≤ k ∧ k ≤ 4) (h1 : -4611686018427387904 ≤ v) (h2 : v ≤ 4611686018427387904) : Calls Tryd.prog 38 #[.int .i64 k, .int .i64 v] w fun e w' => e = .returned (.string (str (partB k v))) ∧ Below w.heap.size w w' := by
  have CD := Lib.hid (r38_Decimal v w h1 h2)
  have hs1 : (str (Lib.itoa v)).size ≤ 100 := by rw [str_size]; have := itoa_len (v := v) ⟨by omega, by omega⟩; omega
  have HE : Hid (∀ c : List UInt8, str c ++ str (Lib.itoa v) = str (c ++ Lib.itoa v)) := Lib.hid fun c => str_add _ _
  obtain rfl | rfl | rfl | rfl | rfl : k = 0 ∨ k = 1 ∨ k = 2 ∨ k = 3 ∨ k = 4 := by omega
  · go_enter Tryd.func38, Tryd.ntmps38
    go_wp2
    go_ret
    exact ⟨rfl, Below.refl _ _⟩
  · have HP : Hid (str (partB 1 v) = str [32, 114] ++ str (Lib.itoa v)) := Lib.hid (HE.out [32, 114]).symm
    generalize str (partB 1 v) = sp at HP ⊢
    generalize str (Lib.itoa v) = su at HE CD hs1 HP
    go_enter Tryd.func38, Tryd.ntmps38
    go_wp2_with (go_at_call 39; (with_reducible refine CD.out.mono ?_); rintro e1 w1 ⟨rfl, hb1⟩)
    go_ret
    exact ⟨congrArg (fun x => Ending.returned (.string x)) HP.out.symm, hb1⟩
  · have HP : Hid (str (partB 2 v) = str [32, 109] ++ str (Lib.itoa v)) := Lib.hid (HE.out [32, 109]).symm
    generalize str (partB 2 v) = sp at HP ⊢
    generalize str (Lib.itoa v) = su at HE CD hs1 HP
    go_enter Tryd.func38, Tryd.ntmps38
    go_wp2_with (go_at_call 39; (with_reducible refine CD.out.mono ?_); rintro e1 w1 ⟨rfl, hb1⟩)
    go_ret
    exact ⟨congrArg (fun x => Ending.returned (.string x)) HP.out.symm, hb1⟩
  · have HP : Hid (str (partB 3 v) = str [32, 99] ++ str (Lib.itoa v)) := Lib.hid (HE.out [32, 99]).symm
    generalize str (partB 3 v) = sp at HP ⊢
    generalize str (Lib.itoa v) = su at HE CD hs1 HP
    go_enter Tryd.func38, Tryd.ntmps38
    go_wp2_with (go_at_call 39; (with_reducible refine CD.out.mono ?_); rintro e1 w1 ⟨rfl, hb1⟩)
    go_ret
    exact ⟨congrArg (fun x => Ending.returned (.string x)) HP.out.symm, hb1⟩
  · have HP : Hid (str (partB 4 v) = str [32] ++ str (Lib.itoa v)) := Lib.hid (HE.out [32]).symm
    generalize str (partB 4 v) = sp at HP ⊢
    generalize str (Lib.itoa v) = su at HE CD hs1 HP
    go_enter Tryd.func38, Tryd.ntmps38
    go_wp2_with (go_at_call 39; (with_reducible refine CD.out.mono ?_); rintro e1 w1 ⟨rfl, hb1⟩)
    go_ret
    exact ⟨congrArg (fun x => Ending.returned (.string x)) HP.out.symm, hb1⟩
end Go.Proofs.YtpdpcgeeneajjaaDoor
end
