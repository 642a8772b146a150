/- Several texts in one: E1 T1 T2 I0 E2 T4 E3. -/
import Derived.Test.YtdiflpbioohddaaDoorhPltoA
import Derived.Test.YtdiflpbioohddaaDoorhBtoG2
import Derived.Test.YtdiflpbioohddaaDoorhUtoU3
import Derived.Test.YtdiflpbioohddaaDoorhJ2
import Derived.Deep.DeepCutAuto
import Derived.Test.YtdiflpbioohddaaDoorhG3toG7
import Derived.Test.YtdiflpbioohddaaDoorhG9toG10
import Derived.Lib.SliceRun
import Derived.Test.YtdiflpbioohddaaDoorhJ
set_option linter.unusedVariables false
set_option linter.unusedSimpArgs false
section
namespace Go.Proofs.YtdiflpbioohddaaDoor
open Go.RowKit
structure Ins where
  (op a b imm : Int)
deriving DecidableEq
def Ins.lst (i : Ins) : List Int := [i.op, i.a, i.b, i.imm]
abbrev Ins.v (i : Ins) : Value := .agg #[.int .i64 i.op, .int .i64 i.a, .int .i64 i.b, .int .i64 i.imm]
def Ins.ok (i : Ins) : Prop := I64 i.op ∧ I64 i.a ∧ I64 i.b ∧ I64 i.imm
def kA : Nat → Int
  | 2 => 1 | 3 => 2 | 4 => 3 | 5 => 1 | 6 => 1 | 7 => 1 | 8 => 3 | 9 => 1 | 10 => 1 | 11 => 1 | _ => 0
def kB : Nat → Int
  | 4 => 4 | 6 => 2 | 7 => 2 | 8 => 1 | 11 => 1 | _ => 0
def kC : Nat → Int
  | 2 => 5 | 3 => 5 | 4 => 5 | _ => 0
def fitsK (k v : Int) : Bool :=
  if k = 1 ∨ k = 3 then decide (0 ≤ v ∧ v < 8) else if k = 2 ∨ k = 4 then decide (0 ≤ v ∧ v < 128) else if k = 5 then decide (-8388608 ≤ v ∧ v ≤ 8388608) else decide (v = 0)
def Ins.formed (i : Ins) : Bool := decide (0 ≤ i.op ∧ i.op < 12) && fitsK (kA i.op.toNat) i.a && fitsK (kB i.op.toNat) i.b && fitsK (kC i.op.toNat) i.imm
def opWord : Nat → List Nat
  | 0 => [104, 97, 108, 116] | 1 => [99, 108, 101, 97, 114] | 2 => [109, 97, 99] | 3 => [109, 97, 99, 109] | 4 => [109, 97, 99, 99] | 5 => [114, 111, 117, 110, 100] | 6 => [108, 111, 97, 100] | 7 => [115, 116, 111, 114, 101] | 8 => [112, 117, 115, 104] | 9 => [105, 110] | 10 => [111, 117, 116] | _ => [109, 111, 118, 101]
structure FormsAt (w : World) : Prop where
  pos : 0 < w.heap.size
  cells : ∀ k, k < 12 → w.cell? ⟨0, k * 4 + 1, none⟩ = some (.int .i64 (kA k)) ∧ w.cell? ⟨0, k * 4 + 2, none⟩ = some (.int .i64 (kB k)) ∧ w.cell? ⟨0, k * 4 + 3, none⟩ = some (.int .i64 (kC k))
theorem FormsAt.grow {w w' : World} (h : FormsAt w) (hb : Below w.heap.size w w') : FormsAt w' :=
  ⟨Nat.lt_of_lt_of_le h.pos hb.size, fun k hk => by
    obtain ⟨h1, h2, h3⟩ := h.cells k hk
    exact ⟨(hb.cell (p := ⟨0, k * 4 + 1, none⟩) h.pos).trans h1, (hb.cell (p := ⟨0, k * 4 + 2, none⟩) h.pos).trans h2, (hb.cell (p := ⟨0, k * 4 + 3, none⟩) h.pos).trans h3⟩⟩
theorem kA_bound (k : Nat) : 0 ≤ kA k ∧ kA k ≤ 5 := by unfold kA; split <;> decide
theorem kB_bound (k : Nat) : 0 ≤ kB k ∧ kB k ≤ 5 := by unfold kB; split <;> decide
theorem kC_bound (k : Nat) : 0 ≤ kC k ∧ kC k ≤ 5 := by unfold kC; split <;> decide
theorem pr_fits (k v : Int) (w : World) (hk : 0 ≤ k ∧ k ≤ 5) : Calls Tryd.prog 117 #[.int .i64 k, .int .i64 v] w fun e w' => e = .returned (.bool (fitsK k v)) ∧ w = w' := by
  have fin : ∀ (c : Bool), fitsK k v = c → Calls Tryd.prog 117 #[.int .i64 k, .int .i64 v] w (fun e w' => e = .returned (.bool c) ∧ w = w') → Calls Tryd.prog 117 #[.int .i64 k, .int .i64 v] w fun e w' => e = .returned (.bool (fitsK k v)) ∧ w = w' := fun c h1 h2 => by rw [h1]; exact h2
  obtain rfl | rfl | rfl | rfl | rfl | rfl : k = 0 ∨ k = 1 ∨ k = 2 ∨ k = 3 ∨ k = 4 ∨ k = 5 := by omega
  · refine fin (v == 0) rfl ?_
    clear fin hk
    go_enter Tryd.func117, Tryd.ntmps117
    go_wp2_with fail
    go_ret
    exact ⟨rfl, rfl⟩
  · by_cases h : 0 ≤ v
    · by_cases h2 : v < 8
      · refine fin true (by simp [fitsK]; omega) ?_
        have d1 : decide (0 ≤ v) = true := decide_eq_true h
        have d2 : decide (v < 8) = true := decide_eq_true h2
        clear fin hk
        go_enter Tryd.func117, Tryd.ntmps117
        go_wp2_with fail
        go_ret
        exact ⟨rfl, rfl⟩
      · refine fin false (by simp [fitsK]; omega) ?_
        have d1 : decide (0 ≤ v) = true := decide_eq_true h
        have d2 : decide (v < 8) = false := decide_eq_false h2
        clear fin hk
        go_enter Tryd.func117, Tryd.ntmps117
        go_wp2_with fail
        go_ret
        exact ⟨rfl, rfl⟩
    · refine fin false (by simp [fitsK]; omega) ?_
      have d1 : decide (0 ≤ v) = false := decide_eq_false h
      clear fin hk
      go_enter Tryd.func117, Tryd.ntmps117
      go_wp2_with fail
      go_ret
      exact ⟨rfl, rfl⟩
  · by_cases h : 0 ≤ v
    · by_cases h2 : v < 128
      · refine fin true (by simp [fitsK]; omega) ?_
        have d1 : decide (0 ≤ v) = true := decide_eq_true h
        have d2 : decide (v < 128) = true := decide_eq_true h2
        clear fin hk
        go_enter Tryd.func117, Tryd.ntmps117
        go_wp2_with fail
        go_ret
        exact ⟨rfl, rfl⟩
      · refine fin false (by simp [fitsK]; omega) ?_
        have d1 : decide (0 ≤ v) = true := decide_eq_true h
        have d2 : decide (v < 128) = false := decide_eq_false h2
        clear fin hk
        go_enter Tryd.func117, Tryd.ntmps117
        go_wp2_with fail
        go_ret
        exact ⟨rfl, rfl⟩
    · refine fin false (by simp [fitsK]; omega) ?_
      have d1 : decide (0 ≤ v) = false := decide_eq_false h
      clear fin hk
      go_enter Tryd.func117, Tryd.ntmps117
      go_wp2_with fail
      go_ret
      exact ⟨rfl, rfl⟩
  · by_cases h : 0 ≤ v
    · by_cases h2 : v < 8
      · refine fin true (by simp [fitsK]; omega) ?_
        have d1 : decide (0 ≤ v) = true := decide_eq_true h
        have d2 : decide (v < 8) = true := decide_eq_true h2
        clear fin hk
        go_enter Tryd.func117, Tryd.ntmps117
        go_wp2_with fail
        go_ret
        exact ⟨rfl, rfl⟩
      · refine fin false (by simp [fitsK]; omega) ?_
        have d1 : decide (0 ≤ v) = true := decide_eq_true h
        have d2 : decide (v < 8) = false := decide_eq_false h2
        clear fin hk
        go_enter Tryd.func117, Tryd.ntmps117
        go_wp2_with fail
        go_ret
        exact ⟨rfl, rfl⟩
    · refine fin false (by simp [fitsK]; omega) ?_
      have d1 : decide (0 ≤ v) = false := decide_eq_false h
      clear fin hk
      go_enter Tryd.func117, Tryd.ntmps117
      go_wp2_with fail
      go_ret
      exact ⟨rfl, rfl⟩
  · by_cases h : 0 ≤ v
    · by_cases h2 : v < 128
      · refine fin true (by simp [fitsK]; omega) ?_
        have d1 : decide (0 ≤ v) = true := decide_eq_true h
        have d2 : decide (v < 128) = true := decide_eq_true h2
        clear fin hk
        go_enter Tryd.func117, Tryd.ntmps117
        go_wp2_with fail
        go_ret
        exact ⟨rfl, rfl⟩
      · refine fin false (by simp [fitsK]; omega) ?_
        have d1 : decide (0 ≤ v) = true := decide_eq_true h
        have d2 : decide (v < 128) = false := decide_eq_false h2
        clear fin hk
        go_enter Tryd.func117, Tryd.ntmps117
        go_wp2_with fail
        go_ret
        exact ⟨rfl, rfl⟩
    · refine fin false (by simp [fitsK]; omega) ?_
      have d1 : decide (0 ≤ v) = false := decide_eq_false h
      clear fin hk
      go_enter Tryd.func117, Tryd.ntmps117
      go_wp2_with fail
      go_ret
      exact ⟨rfl, rfl⟩
  · by_cases h : -8388608 ≤ v
    · by_cases h2 : v ≤ 8388608
      · refine fin true (by simp [fitsK]; omega) ?_
        have d1 : decide (-8388608 ≤ v) = true := decide_eq_true h
        have d2 : decide (v ≤ 8388608) = true := decide_eq_true h2
        clear fin hk
        go_enter Tryd.func117, Tryd.ntmps117
        go_wp2_with fail
        go_ret
        exact ⟨rfl, rfl⟩
      · refine fin false (by simp [fitsK]; omega) ?_
        have d1 : decide (-8388608 ≤ v) = true := decide_eq_true h
        have d2 : decide (v ≤ 8388608) = false := decide_eq_false h2
        clear fin hk
        go_enter Tryd.func117, Tryd.ntmps117
        go_wp2_with fail
        go_ret
        exact ⟨rfl, rfl⟩
    · refine fin false (by simp [fitsK]; omega) ?_
      have d1 : decide (-8388608 ≤ v) = false := decide_eq_false h
      clear fin hk
      go_enter Tryd.func117, Tryd.ntmps117
      go_wp2_with fail
      go_ret
      exact ⟨rfl, rfl⟩
def Ins.cells (i : Ins) : List Value := [.int .i64 i.op, .int .i64 i.a, .int .i64 i.b, .int .i64 i.imm]
theorem entryI (w : World) (i : Ins) : ∀ W, W = (w.alloc (.cells i.cells.toArray 109)) → Box W w.heap.size i.cells ∧ Below w.heap.size w W := fun W hW => by
  subst hW
  exact ⟨Box.new rfl, (Below.refl w.heap.size w).alloc (Nat.le_refl _) _⟩
set_option maxHeartbeats 2000000 in
set_option maxRecDepth 100000 in
theorem pr_formed (i : Ins) (w : World) (hf : FormsAt w) : Calls Tryd.prog 110 #[i.v] w fun e w' => e = .returned (.bool i.formed) ∧ Below w.heap.size w w' := by
  obtain ⟨op, a, b, imm⟩ := i
  have fin : ∀ (c : Bool), Ins.formed ⟨op, a, b, imm⟩ = c → Calls Tryd.prog 110 #[.agg #[.int .i64 op, .int .i64 a, .int .i64 b, .int .i64 imm]] w (fun e w' => e = .returned (.bool c) ∧ Below w.heap.size w w') → Calls Tryd.prog 110 #[Ins.v ⟨op, a, b, imm⟩] w fun e w' => e = .returned (.bool (Ins.formed ⟨op, a, b, imm⟩)) ∧ Below w.heap.size w w' := fun c h1 h2 => by rw [h1]; exact h2
  by_cases h0 : 0 ≤ op
  · by_cases h1 : op < 12
    · obtain ⟨k, rfl⟩ := Int.eq_ofNat_of_zero_le h0
      have hk : k < 12 := by omega
      obtain ⟨c1, c2, c3⟩ := hf.cells k hk
      obtain ⟨x, hx⟩ : ∃ x, fitsK (kA k) a = x := ⟨_, rfl⟩
      obtain ⟨y, hy⟩ : ∃ x, fitsK (kB k) b = x := ⟨_, rfl⟩
      obtain ⟨z, hz⟩ : ∃ x, fitsK (kC k) imm = x := ⟨_, rfl⟩
      refine fin (x && (y && z)) (by unfold Ins.formed; simp [hx, hy, hz, h0]; cases x <;> cases y <;> cases z <;> simp <;> omega) ?_
      have C1 : Hid (∀ w1, Calls Tryd.prog 117 #[.int .i64 (kA k), .int .i64 a] w1 fun e w' => e = .returned (.bool x) ∧ w1 = w') := fun w1 => by have := pr_fits (kA k) a w1 (kA_bound k); rw [hx] at this; exact this
      have C2 : Hid (∀ w1, Calls Tryd.prog 117 #[.int .i64 (kB k), .int .i64 b] w1 fun e w' => e = .returned (.bool y) ∧ w1 = w') := fun w1 => by have := pr_fits (kB k) b w1 (kB_bound k); rw [hy] at this; exact this
      have C3 : Hid (∀ w1, Calls Tryd.prog 117 #[.int .i64 (kC k), .int .i64 imm] w1 fun e w' => e = .returned (.bool z) ∧ w1 = w') := fun w1 => by have := pr_fits (kC k) imm w1 (kC_bound k); rw [hz] at this; exact this
      have hp := hf.pos
      clear fin hx hy hz hf h0
      generalize kA k = ka at c1 C1
      generalize kB k = kb at c2 C2
      generalize kC k = kc at c3 C3
      have hk1 : (k : Int) < 12 := by omega
      have hk0 : (0 : Int) ≤ (k : Int) := by omega
      clear h1
      go_enter Tryd.func110, Tryd.ntmps110
      go_upto_region 1 with fail
      obtain ⟨bx0, hb0⟩ := entryI w ⟨k, a, b, imm⟩ _ rfl
      change Code.wp _ _ _ _ (w.alloc (.cells (Ins.cells ⟨k, a, b, imm⟩).toArray 109))
      generalize (w.alloc (.cells (Ins.cells ⟨k, a, b, imm⟩).toArray 109)) = W0 at bx0 hb0 ⊢
      replace c1 := (hb0.cell (p := ⟨0, k * 4 + 1, none⟩) hp).trans c1
      replace c2 := (hb0.cell (p := ⟨0, k * 4 + 2, none⟩) hp).trans c2
      replace c3 := (hb0.cell (p := ⟨0, k * 4 + 3, none⟩) hp).trans c3
      obtain ⟨z0, z1, z2, z3⟩ := bx0.c4
      go_upto_region 4 with ((with_reducible show wpList _ _ _ (Oper.mk _ (.store _ _ _) _ _ _ _ :: _) _ _); refine wp_st (w := W0.alloc (.cells #[.int .i64 0, .int .i64 0, .int .i64 0] 158)) (vs' := [.int .i64 ka, .int .i64 kb, .int .i64 kc]) rfl _ _ _ rfl W0.heap.size 0 [.int .i64 ka, .int .i64 kb, .int .i64 kc] rfl rfl (by kernel_rfl) rfl (Box.new rfl) (by simp) rfl ?_; intro W1 b1 p1)
      have hb1 := put_facts ((Below.refl W0.heap.size W0).alloc (Nat.le_refl _) (.cells #[.int .i64 0, .int .i64 0, .int .i64 0] 158)) (Nat.le_refl _) p1
      obtain ⟨z0, z1, z2, z3⟩ := (Box.keep bx0 hb1).c4
      obtain ⟨y0, y1, y2⟩ := b1.c3
      clear c1 c2 c3 bx0
      generalize W0.heap.size = g1 at y0 y1 y2 ⊢
      cases x with
      | false =>
        go_wp2_with (go_at_call 117; (first | ((with_reducible refine (C1.out _).mono ?_); rintro e1 w1 ⟨rfl, rfl⟩) | ((with_reducible refine (C2.out _).mono ?_); rintro e1 w1 ⟨rfl, rfl⟩) | ((with_reducible refine (C3.out _).mono ?_); rintro e1 w1 ⟨rfl, rfl⟩)))
        go_ret
        exact ⟨rfl, below_then hb0 hb1⟩
      | true =>
        cases y with
        | false =>
          go_wp2_with (go_at_call 117; (first | ((with_reducible refine (C1.out _).mono ?_); rintro e1 w1 ⟨rfl, rfl⟩) | ((with_reducible refine (C2.out _).mono ?_); rintro e1 w1 ⟨rfl, rfl⟩) | ((with_reducible refine (C3.out _).mono ?_); rintro e1 w1 ⟨rfl, rfl⟩)))
          go_ret
          exact ⟨rfl, below_then hb0 hb1⟩
        | true =>
          go_wp2_with (go_at_call 117; (first | ((with_reducible refine (C1.out _).mono ?_); rintro e1 w1 ⟨rfl, rfl⟩) | ((with_reducible refine (C2.out _).mono ?_); rintro e1 w1 ⟨rfl, rfl⟩) | ((with_reducible refine (C3.out _).mono ?_); rintro e1 w1 ⟨rfl, rfl⟩)))
          go_ret
          exact ⟨rfl, below_then hb0 hb1⟩
    · refine fin false (by unfold Ins.formed; simp; omega) ?_
      have d1 : decide (op < 0) = false := decide_eq_false (by omega)
      have d2 : decide ((12 : Int) ≤ op) = true := decide_eq_true (by omega)
      clear fin hf
      go_enter Tryd.func110, Tryd.ntmps110
      go_wp2_with fail
      go_ret
      exact ⟨rfl, (Below.refl _ _).alloc (Nat.le_refl _) _⟩
  · refine fin false (by unfold Ins.formed; simp; omega) ?_
    have d1 : decide (op < 0) = true := decide_eq_true (by omega)
    clear fin hf
    go_enter Tryd.func110, Tryd.ntmps110
    go_wp2_with fail
    go_ret
    exact ⟨rfl, (Below.refl _ _).alloc (Nat.le_refl _) _⟩
end Go.Proofs.YtdiflpbioohddaaDoor
end
section
namespace Go.Proofs.YtdiflpbioohddaaDoor
open Go.RowKit
def sumT (ts : List (Int × Int)) (vs : List Int) : Nat → Int
  | 0 => 0
  | i + 1 => sumT ts vs i + (match ts[i]? with | some t => t.2 * atF vs t.1 | none => 0)
def nodeV (d2 c1 : Int) (vs : List Int) (ts : List (Int × Int)) : Int := shiftF (sumT ts vs ts.length) c1 d2
def valsF (d0 d1 d2 d3 c1 : Int) (ns : List (List (Int × Int))) (x : List Int) : Nat → List Int
  | 0 => x
  | k + 1 => valsF d0 d1 d2 d3 c1 ns x k ++ (match ns[k]? with | some ts => [reduceW d0 d1 d2 d3 (nodeV d2 c1 (valsF d0 d1 d2 d3 c1 ns x k) ts)] | none => [])
def followF (nx vs : List Int) : List Int := nx.map (atF vs)
theorem pow_23 {b : Int} (h1 : 4 ≤ b) (h2 : b ≤ 24) : (2 : Int) ^ (b - 1).toNat ≤ 8388608 := by
  have : (2 : Int) ^ (b - 1).toNat ≤ 2 ^ 23 := pow_le (by omega)
  simpa using this
theorem fits_23 {b f r o v : Int} (h : fitsW b f r o v = true) : -8388608 ≤ v ∧ v ≤ 8388608 := by
  obtain ⟨hc, h1, h2⟩ := fits_iff.1 h
  obtain ⟨a1, a2, _⟩ := okW_iff.1 hc
  have hp := pow_23 a1 a2
  unfold lowW at h1
  unfold highW at h2
  rw [if_pos hc] at h1 h2
  omega
theorem term_23 {c0 c1 c2 c3 last : Int} {t : Int × Int} (hc : okW c0 c1 c2 c3 = true) (h : termB c0 c1 c2 c3 last t = true) : (0 ≤ t.1 ∧ t.1 ≤ last) ∧ -8388608 ≤ t.2 ∧ t.2 ≤ 8388608 := by
  unfold termB at h
  simp only [Bool.and_eq_true, Bool.or_eq_true, beq_iff_eq] at h
  refine ⟨inB_iff.1 h.1, ?_⟩
  rcases h.2 with h | h
  · exact fits_23 h
  · obtain ⟨a1, a2, a3, a4, _⟩ := okW_iff.1 hc
    have := pow_23 a1 a2
    have h3 : (2 : Int) ^ c1.toNat ≤ 2 ^ (c0 - 1).toNat := pow_le (by omega)
    have h4 : 0 < (2 : Int) ^ c1.toNat := pow_pos' _
    omega
end Go.Proofs.YtdiflpbioohddaaDoor
end
section
namespace Go.Proofs.YtdiflpbioohddaaDoor
open Go.RowKit
theorem own_below {a w w' : World} {b : Nat} {v : Value} (h : Below b a w) (hb : b ≤ w.heap.size) (hv : ∀ k, v.ownBlock = some k → b ≤ k) (hg : w.grownBy w' v.ownBlock) : Below b a w' := h.grown hg hb hv
theorem Own.ge {base : Nat} {w : World} {v : Value} {l : List Int} (h : Own base w v l) : ∀ k, v.ownBlock = some k → base ≤ k := fun k hk => (h.1.lt k hk).1
theorem Own.single {w : World} {x : Int} (hx : I64 x) : Own w.heap.size (w.alloc (.cells #[.int .i64 x] 3)) (.slice (some ⟨w.heap.size, 0, none⟩) 1 1) [x] := by
  refine ⟨?_, by simpa using hx⟩
  exact World.ownsRow_lit w #[.int .i64 x] 1 (Nat.le_refl _) (by unfold maxLen; omega) (by simp)
theorem app_intsN {ops : Array Oper} {rest : List Oper} {o : Oper} {a : Act} {Q : Exit → Act → World → Prop} (w : World) (hg : o.guard = none) (s x : Operand) (ho : o.op = .call { callee := .builtin .append, args := #[s, x], argTypes := #[25, 25] })
    (base : Nat) {v : Value} {l m : List Int} {A : Option Addr} {c n : Nat} (hs : a.eval s = v) (hx : a.eval x = .slice A n c) (hm : m.length = n) (hown : Own base w v l) (hI : Ints w A m) (hn : l.length + n ≤ 100000000) (hbase : base ≤ w.heap.size)
    (h : ∀ v' w', Own base w' v' (l ++ m) → Below base w w' → wpList Tryd.prog ops Q rest (a.put o.dst v') w') : wpList Tryd.prog ops Q (o :: rest) a w := by
  subst hm
  exact app_ints w hg s x ho base hs hx hown hI hn hbase fun v' w' h1 h2 _ => h v' w' h1 (own_below (Below.refl _ _) hbase hown.ge h2)
theorem netB_parts {d0 d1 d2 d3 c0 c1 c2 c3 st out : Int} {ns : List (List (Int × Int))} {nx : List Int} (h : netB d0 d1 d2 d3 c0 c1 c2 c3 st ns nx out = true) :
    okW d0 d1 d2 d3 = true ∧ okW c0 c1 c2 c3 = true ∧ (0 ≤ st ∧ st ≤ 64) ∧ ns.length ≤ 64 ∧ st = (nx.length : Int) ∧ (∀ (k : Nat) ts, ns[k]? = some ts → ts.length ≤ 64 ∧ ∀ t ∈ ts, (0 ≤ t.1 ∧ t.1 ≤ st + k) ∧ -8388608 ≤ t.2 ∧ t.2 ≤ 8388608) ∧
    (∀ v ∈ nx, 0 ≤ v ∧ v ≤ st + ns.length) ∧ 0 ≤ out ∧ out ≤ st + ns.length := by
  unfold netB netHeadB at h
  simp only [Bool.and_eq_true, decide_eq_true_eq, beq_iff_eq] at h
  obtain ⟨⟨h1, h2, h3, h4, h5⟩, h6, h7, h8⟩ := h
  refine ⟨h1, h2, inB_iff.1 h3, h4, h5.symm, fun k ts hk => ?_, fun v hv => inB_iff.1 (List.all_eq_true.1 h7 v hv), inB_iff.1 h8⟩
  have hk' := (List.getElem?_eq_some_iff.1 hk).1
  unfold nodesB at h6
  have := List.all_eq_true.1 h6 k (List.mem_range.2 hk')
  rw [hk] at this
  simp only [nodeB, Bool.and_eq_true, decide_eq_true_eq] at this
  exact ⟨this.1, fun t ht => term_23 h2 (List.all_eq_true.1 this.2 t ht)⟩
end Go.Proofs.YtdiflpbioohddaaDoor
end
section
namespace Go.Proofs.YtdiflpbioohddaaDoor
open Go.RowKit
theorem ints_none {w : World} {l : List Int} (h : Ints w none l) : l = [] := by
  cases l with
  | nil => rfl
  | cons x t => obtain ⟨ad, _, e, _⟩ := h.at_ (k := 0) (by simp); cases e
def IntsF (b : Nat) (w : World) (A : Option Addr) (l : List Int) : Prop := Ints w A l ∧ (l ≠ [] → ∀ a, A = some a → b ≤ a.block)
theorem IntsF.nil {b : Nat} {w : World} {A : Option Addr} : IntsF b w A [] := ⟨Ints.nil, fun h => absurd rfl h⟩
theorem IntsF.base {b b' : Nat} {w : World} {A : Option Addr} {l : List Int} (h : IntsF b w A l) (hb : b' ≤ b) : IntsF b' w A l := ⟨h.1, fun hl a ha => Nat.le_trans hb (h.2 hl a ha)⟩
theorem IntsF.grow {b : Nat} {w w' : World} {A : Option Addr} {l : List Int} (h : IntsF b w A l) (hb : Below w.heap.size w w') : IntsF b w' A l := ⟨h.1.grow hb, h.2⟩
theorem IntsF.away {b q : Nat} {w w' : World} {A : Option Addr} {l : List Int} (h : IntsF b w A l) (hg : w.grownBy w' (some q)) (hq : q < b) : IntsF b w' A l := by
  refine ⟨⟨fun k v hk => ?_, h.1.2⟩, h.2⟩
  obtain ⟨ad, e, hb, hc⟩ := h.1.1 k v hk
  have hl : l ≠ [] := by rintro rfl; simp at hk
  have := h.2 hl ad e
  exact ⟨ad, e, Nat.lt_of_lt_of_le hb hg.size, hg.cell hc (by rw [block_add]; intro e'; injection e' with e'; omega)⟩
theorem IntsF.own {b n c : Nat} {w : World} {A : Option Addr} {l : List Int} (h : Own b w (.slice A n c) l) : IntsF b w A l := ⟨h.ints, fun _ a ha => by subst ha; exact (h.1.lt a.block rfl).1⟩
theorem ints_kept {w w' : World} {A : Option Addr} {l : List Int} {r : Option Nat} (h : Ints w A l) (hg : w.grownBy w' r) (hn : l ≠ [] → ∀ a, A = some a → some a.block ≠ r) : Ints w' A l := by
  refine ⟨fun k v hk => ?_, h.2⟩
  obtain ⟨ad, e, hb, hc⟩ := h.1 k v hk
  have hl : l ≠ [] := by rintro rfl; simp at hk
  exact ⟨ad, e, Nat.lt_of_lt_of_le hb hg.size, hg.cell hc (by rw [block_add]; exact hn hl ad e)⟩
theorem sl_CloneI (A : Option Addr) (n c : Nat) (l : List Int) (w : World) (h : Ints w A l) (hn : l.length = n) (h9 : n ≤ 1000000) : Calls Tryd.prog 43 #[.slice A n c] w (RetInts1 w l) := by
  have q22 : ∀ (w : World) (a : Option Addr) (n c n' c' : Nat), (binOp .eql 25 (.slice a n c) (.slice none n' c')).run Tryd.prog w = .ok (.bool a.isNone) w := fun w a n c n' c' => Lib.run_eql_slice_nil w _ _ a n c n' c' Tryd.underlying25
  cases A with
  | none =>
    have hl := ints_none h
    subst hl
    go_enter Tryd.func43, Tryd.ntmps43
    go_wp2_with fail
    go_ret
    exact ⟨_, rfl, Own.nil, Below.refl _ _⟩
  | some ad =>
    have he : Own w.heap.size (w.alloc (.cells #[] 3)) (.slice (some ⟨w.heap.size, 0, none⟩) 0 0) [] := emp1
    have hb := (Below.refl w.heap.size w).alloc (Nat.le_refl _) (.cells #[] 3)
    have hi := h.grow hb
    have hs : w.heap.size ≤ (w.alloc (.cells #[] 3)).heap.size := hb.size
    have HB := Lib.hid hb
    clear hb h
    go_enter Tryd.func43, Tryd.ntmps43
    go_wp2_with (at_builtin; refine app_intsN _ rfl _ _ rfl w.heap.size (m := l) rfl rfl hn he hi (by simp; omega) hs ?_; intro v1 w1 ho1 hb1)
    go_ret
    exact ⟨_, rfl, ho1, HB.out.trans hb1⟩
end Go.Proofs.YtdiflpbioohddaaDoor
end
section
namespace Go.Proofs.YtdiflpbioohddaaDoor
open Go.RowKit
def Ins.rd (i : Ins) : List Int :=
  if i.formed then match i.op.toNat with
    | 2 => [i.a, 8] | 3 => [8, 100 + i.a] | 4 => [8, 20 + i.a] | 5 => [8] | 6 => [100 + i.b] | 7 => [i.a] | 8 => [i.b, 20 + i.a] | 9 => [9] | 10 => [i.a] | 11 => [i.b] | _ => []
  else []
def Ins.wt (i : Ins) : List Int :=
  if i.formed then match i.op.toNat with
    | 1 => [8] | 2 => [8] | 3 => [8] | 4 => [8] | 5 => [i.a] | 6 => [i.a] | 7 => [100 + i.b] | 8 => [20 + i.a] | 9 => [i.a] | 10 => [10] | 11 => [i.a] | _ => []
  else []
theorem fitsK_bound {k v : Int} (hk : 0 ≤ k ∧ k ≤ 4) (h : fitsK k v = true) : 0 ≤ v ∧ v < 128 := by
  unfold fitsK at h
  split at h
  · have := of_decide_eq_true h; omega
  · split at h
    · have := of_decide_eq_true h; omega
    · split at h
      · omega
      · have := of_decide_eq_true h; omega
theorem kA4 (k : Nat) : 0 ≤ kA k ∧ kA k ≤ 4 := by unfold kA; split <;> decide
theorem kB4 (k : Nat) : 0 ≤ kB k ∧ kB k ≤ 4 := by unfold kB; split <;> decide
theorem formed_parts {i : Ins} (h : i.formed = true) : (0 ≤ i.op ∧ i.op < 12) ∧ (0 ≤ i.a ∧ i.a < 128) ∧ (0 ≤ i.b ∧ i.b < 128) ∧ (-8388608 ≤ i.imm ∧ i.imm ≤ 8388608) := by
  unfold Ins.formed at h
  rw [Bool.and_eq_true, Bool.and_eq_true, Bool.and_eq_true] at h
  obtain ⟨⟨⟨h1, h2⟩, h3⟩, h4⟩ := h
  refine ⟨of_decide_eq_true h1, fitsK_bound (kA4 _) h2, fitsK_bound (kB4 _) h3, ?_⟩
  have hc : kC i.op.toNat = 5 ∨ kC i.op.toNat = 0 := by unfold kC; split <;> simp
  rcases hc with e | e <;> rw [e] at h4
  · exact of_decide_eq_true h4
  · have h5 : i.imm = 0 := of_decide_eq_true h4
    omega
end Go.Proofs.YtdiflpbioohddaaDoor
end
section
namespace Go.Proofs.YtdiflpbioohddaaDoor
open Go.RowKit
theorem results_tmp4 {fn : Func} {t u v x : Tmp} (h : fn.results = #[.tmp t, .tmp u, .tmp v, .tmp x]) (tmps : Array Value) (P : Program) (w : World) :
    (results fn tmps).run P w = .ok (.tuple #[tmps.getD t undef, tmps.getD u undef, tmps.getD v undef, tmps.getD x undef]) w := by
  simp [results, h]
end Go.Proofs.YtdiflpbioohddaaDoor
end
section
namespace Go.Proofs.YtdiflpbioohddaaDoor
open Go.RowKit
def opStr : Nat → ByteArray
  | 0 => ⟨#[104, 97, 108, 116]⟩
  | 1 => ⟨#[99, 108, 101, 97, 114]⟩
  | 2 => ⟨#[109, 97, 99]⟩
  | 3 => ⟨#[109, 97, 99, 109]⟩
  | 4 => ⟨#[109, 97, 99, 99]⟩
  | 5 => ⟨#[114, 111, 117, 110, 100]⟩
  | 6 => ⟨#[108, 111, 97, 100]⟩
  | 7 => ⟨#[115, 116, 111, 114, 101]⟩
  | 8 => ⟨#[112, 117, 115, 104]⟩
  | 9 => ⟨#[105, 110]⟩
  | 10 => ⟨#[111, 117, 116]⟩
  | _ => ⟨#[109, 111, 118, 101]⟩
def formR (op : Int) : Value :=
  if 0 ≤ op ∧ op < 12 then .tuple #[.string (opStr op.toNat), .int .i64 (kA op.toNat), .int .i64 (kB op.toNat), .bool (kC op.toNat == 5)] else .tuple #[.string ⟨#[]⟩, .int .i64 0, .int .i64 0, .bool false]
set_option maxRecDepth 100000 in
theorem r38_form (op : Int) (w : World) : Calls Tryd.prog 111 #[.int .i64 op] w fun e w' => e = .returned (formR op) ∧ w = w' := by
  by_cases h : 0 ≤ op ∧ op < 12
  · unfold formR
    rw [if_pos h]
    obtain ⟨h0, h1⟩ := h
    obtain rfl | rfl | rfl | rfl | rfl | rfl | rfl | rfl | rfl | rfl | rfl | rfl : op = 0 ∨ op = 1 ∨ op = 2 ∨ op = 3 ∨ op = 4 ∨ op = 5 ∨ op = 6 ∨ op = 7 ∨ op = 8 ∨ op = 9 ∨ op = 10 ∨ op = 11 := by omega
    all_goals
      clear h0 h1
      go_enter Tryd.func111, Tryd.ntmps111
      go_wp2_with fail
      refine bodyPost_ret (results_tmp4 rfl _ _ _) rfl ?_
      exact ⟨rfl, rfl⟩
  · unfold formR
    rw [if_neg h]
    have n0 : (op == 0) = false := by simp; omega
    have n1 : (op == 1) = false := by simp; omega
    have n2 : (op == 2) = false := by simp; omega
    have n3 : (op == 3) = false := by simp; omega
    have n4 : (op == 4) = false := by simp; omega
    have n5 : (op == 5) = false := by simp; omega
    have n6 : (op == 6) = false := by simp; omega
    have n7 : (op == 7) = false := by simp; omega
    have n8 : (op == 8) = false := by simp; omega
    have n9 : (op == 9) = false := by simp; omega
    have n10 : (op == 10) = false := by simp; omega
    have n11 : (op == 11) = false := by simp; omega
    clear h
    go_enter Tryd.func111, Tryd.ntmps111
    go_wp2_with fail
    refine bodyPost_ret (results_tmp4 rfl _ _ _) rfl ?_
    exact ⟨rfl, rfl⟩
theorem r38_field (k v : Int) (w : World) (hk : 0 ≤ k ∧ k ≤ 4) (hv : I64 v) : Calls Tryd.prog 112 #[.int .i64 k, .int .i64 v] w fun e w' => e = .returned (.bool (fitsK k v)) ∧ w = w' := by
  have CI : Hid (∀ hi w1, Calls Tryd.prog 32 #[.int .i64 v, .int .i64 0, .int .i64 hi] w1 fun e w' => e = .returned (.bool (inB v 0 hi)) ∧ w1 = w') := fun hi w1 => rf_In v 0 hi w1
  have e7 : inB v 0 7 = fitsK 1 v := Bool.eq_iff_iff.2 (by simp [inB, fitsK]; omega)
  have e3 : fitsK 3 v = fitsK 1 v := rfl
  have e9 : inB v 0 127 = fitsK 2 v := Bool.eq_iff_iff.2 (by simp [inB, fitsK]; omega)
  have e4 : fitsK 4 v = fitsK 2 v := rfl
  have e0 : fitsK 0 v = (v == 0) := rfl
  obtain rfl | rfl | rfl | rfl | rfl : k = 0 ∨ k = 1 ∨ k = 2 ∨ k = 3 ∨ k = 4 := by omega
  all_goals
    try rw [e3]
    try rw [e4]
    try rw [e0]
    try rw [← e7]
    try rw [← e9]
    clear hk e7 e3 e9 e4 e0 hv
    go_enter Tryd.func112, Tryd.ntmps112
    go_wp2_with (go_at_call 32; (with_reducible refine (CI.out _ _).mono ?_); rintro e1 w1 ⟨rfl, rfl⟩)
    go_ret
    exact ⟨rfl, rfl⟩
set_option maxRecDepth 100000 in
set_option maxHeartbeats 4000000 in
theorem r38_Formed (i : Ins) (w : World) (hi : i.ok) : Calls Tryd.prog 104 #[i.v] w fun e w' => e = .returned (.bool i.formed) ∧ Below w.heap.size w w' := by
  obtain ⟨op, a, b, imm⟩ := i
  obtain ⟨i0, i1, i2, i3⟩ := hi
  simp only at i0 i1 i2 i3
  have fin : ∀ (c : Bool), Ins.formed ⟨op, a, b, imm⟩ = c → Calls Tryd.prog 104 #[.agg #[.int .i64 op, .int .i64 a, .int .i64 b, .int .i64 imm]] w (fun e w' => e = .returned (.bool c) ∧ Below w.heap.size w w') → Calls Tryd.prog 104 #[Ins.v ⟨op, a, b, imm⟩] w fun e w' => e = .returned (.bool (Ins.formed ⟨op, a, b, imm⟩)) ∧ Below w.heap.size w w' := fun c h1 h2 => by rw [h1]; exact h2
  by_cases h : 0 ≤ op ∧ op < 12
  · obtain ⟨x, hx⟩ : ∃ x, fitsK (kA op.toNat) a = x := ⟨_, rfl⟩
    obtain ⟨y, hy⟩ : ∃ x, fitsK (kB op.toNat) b = x := ⟨_, rfl⟩
    obtain ⟨z, hz⟩ : ∃ x, fitsK (kC op.toNat) imm = x := ⟨_, rfl⟩
    refine fin (x && (y && z)) (by unfold Ins.formed; rw [hx, hy, hz, decide_eq_true h, Bool.true_and, Bool.and_assoc]) ?_
    have C0 : Hid (∀ w1, Calls Tryd.prog 111 #[.int .i64 op] w1 fun e w' => e = .returned (.tuple #[.string (opStr op.toNat), .int .i64 (kA op.toNat), .int .i64 (kB op.toNat), .bool (kC op.toNat == 5)]) ∧ w1 = w') := fun w1 => by have := r38_form op w1; unfold formR at this; rw [if_pos h] at this; exact this
    have C1 : Hid (∀ w1, Calls Tryd.prog 112 #[.int .i64 (kA op.toNat), .int .i64 a] w1 fun e w' => e = .returned (.bool x) ∧ w1 = w') := fun w1 => by have := r38_field (kA op.toNat) a w1 (kA4 _) i1; rw [hx] at this; exact this
    have C2 : Hid (∀ w1, Calls Tryd.prog 112 #[.int .i64 (kB op.toNat), .int .i64 b] w1 fun e w' => e = .returned (.bool y) ∧ w1 = w') := fun w1 => by have := r38_field (kB op.toNat) b w1 (kB4 _) i2; rw [hy] at this; exact this
    have CI : Hid (∀ w1, Calls Tryd.prog 32 #[.int .i64 imm, .int .i64 (-8388608), .int .i64 8388608] w1 fun e w' => e = .returned (.bool (fitsK 5 imm)) ∧ w1 = w') := fun w1 => by
      have e5 : inB imm (-8388608) 8388608 = fitsK 5 imm := Bool.eq_iff_iff.2 (by simp [inB, fitsK])
      have := rf_In imm (-8388608) 8388608 w1; rw [e5] at this; exact this
    have hs1 : (opStr op.toNat).toList.isEmpty = false := by unfold opStr; split <;> decide +kernel
    have hs2 : ¬ (opStr op.toNat).toList = [] := fun e => by rw [e] at hs1; exact absurd hs1 (by decide)
    have hc : kC op.toNat = 5 ∨ kC op.toNat = 0 := by unfold kC; split <;> simp
    generalize opStr op.toNat = sw at hs1 hs2 C0
    generalize kA op.toNat = ka at C0 C1
    generalize kB op.toNat = kb at C0 C2
    generalize kC op.toNat = kc at hz hc C0
    clear hx hy fin h
    cases x with
    | false =>
      clear hz hc
      go_enter Tryd.func104, Tryd.ntmps104
      go_upto_region 1 with fail
      obtain ⟨bx0, hb0⟩ := entryI w ⟨op, a, b, imm⟩ _ rfl
      change Code.wp _ _ _ _ (w.alloc (.cells (Ins.cells ⟨op, a, b, imm⟩).toArray 109))
      generalize (w.alloc (.cells (Ins.cells ⟨op, a, b, imm⟩).toArray 109)) = W0 at bx0 hb0 ⊢
      obtain ⟨z0, z1, z2, z3⟩ := bx0.c4
      go_wp2_with (first
        | (go_at_call 111; (with_reducible refine (C0.out _).mono ?_); rintro e1 w1 ⟨rfl, rfl⟩)
        | (go_at_call 32; (with_reducible refine (CI.out _).mono ?_); rintro e1 w1 ⟨rfl, rfl⟩)
        | (go_at_call 112; first | ((with_reducible refine (C1.out _).mono ?_); rintro e1 w1 ⟨rfl, rfl⟩) | ((with_reducible refine (C2.out _).mono ?_); rintro e1 w1 ⟨rfl, rfl⟩)))
      all_goals go_ret
      all_goals first | exact ⟨rfl, hb0⟩
    | true =>
      cases y with
      | false =>
        clear hz hc
        go_enter Tryd.func104, Tryd.ntmps104
        go_upto_region 1 with fail
        obtain ⟨bx0, hb0⟩ := entryI w ⟨op, a, b, imm⟩ _ rfl
        change Code.wp _ _ _ _ (w.alloc (.cells (Ins.cells ⟨op, a, b, imm⟩).toArray 109))
        generalize (w.alloc (.cells (Ins.cells ⟨op, a, b, imm⟩).toArray 109)) = W0 at bx0 hb0 ⊢
        obtain ⟨z0, z1, z2, z3⟩ := bx0.c4
        go_wp2_with (first
          | (go_at_call 111; (with_reducible refine (C0.out _).mono ?_); rintro e1 w1 ⟨rfl, rfl⟩)
          | (go_at_call 32; (with_reducible refine (CI.out _).mono ?_); rintro e1 w1 ⟨rfl, rfl⟩)
          | (go_at_call 112; first | ((with_reducible refine (C1.out _).mono ?_); rintro e1 w1 ⟨rfl, rfl⟩) | ((with_reducible refine (C2.out _).mono ?_); rintro e1 w1 ⟨rfl, rfl⟩)))
        all_goals go_ret
        all_goals first | exact ⟨rfl, hb0⟩
      | true =>
        rcases hc with rfl | rfl
        · subst hz
          generalize fitsK 5 imm = z at CI ⊢
          cases z with
          | false =>
            go_enter Tryd.func104, Tryd.ntmps104
            go_upto_region 1 with fail
            obtain ⟨bx0, hb0⟩ := entryI w ⟨op, a, b, imm⟩ _ rfl
            change Code.wp _ _ _ _ (w.alloc (.cells (Ins.cells ⟨op, a, b, imm⟩).toArray 109))
            generalize (w.alloc (.cells (Ins.cells ⟨op, a, b, imm⟩).toArray 109)) = W0 at bx0 hb0 ⊢
            obtain ⟨z0, z1, z2, z3⟩ := bx0.c4
            go_wp2_with (first
              | (go_at_call 111; (with_reducible refine (C0.out _).mono ?_); rintro e1 w1 ⟨rfl, rfl⟩)
              | (go_at_call 32; (with_reducible refine (CI.out _).mono ?_); rintro e1 w1 ⟨rfl, rfl⟩)
              | (go_at_call 112; first | ((with_reducible refine (C1.out _).mono ?_); rintro e1 w1 ⟨rfl, rfl⟩) | ((with_reducible refine (C2.out _).mono ?_); rintro e1 w1 ⟨rfl, rfl⟩)))
            all_goals go_ret
            all_goals first | exact ⟨rfl, hb0⟩
          | true =>
            go_enter Tryd.func104, Tryd.ntmps104
            go_upto_region 1 with fail
            obtain ⟨bx0, hb0⟩ := entryI w ⟨op, a, b, imm⟩ _ rfl
            change Code.wp _ _ _ _ (w.alloc (.cells (Ins.cells ⟨op, a, b, imm⟩).toArray 109))
            generalize (w.alloc (.cells (Ins.cells ⟨op, a, b, imm⟩).toArray 109)) = W0 at bx0 hb0 ⊢
            obtain ⟨z0, z1, z2, z3⟩ := bx0.c4
            go_wp2_with (first
              | (go_at_call 111; (with_reducible refine (C0.out _).mono ?_); rintro e1 w1 ⟨rfl, rfl⟩)
              | (go_at_call 32; (with_reducible refine (CI.out _).mono ?_); rintro e1 w1 ⟨rfl, rfl⟩)
              | (go_at_call 112; first | ((with_reducible refine (C1.out _).mono ?_); rintro e1 w1 ⟨rfl, rfl⟩) | ((with_reducible refine (C2.out _).mono ?_); rintro e1 w1 ⟨rfl, rfl⟩)))
            all_goals go_ret
            all_goals first | exact ⟨rfl, hb0⟩
        · subst hz
          have e0 : fitsK 0 imm = (imm == 0) := rfl
          rw [e0]
          go_enter Tryd.func104, Tryd.ntmps104
          go_upto_region 1 with fail
          obtain ⟨bx0, hb0⟩ := entryI w ⟨op, a, b, imm⟩ _ rfl
          change Code.wp _ _ _ _ (w.alloc (.cells (Ins.cells ⟨op, a, b, imm⟩).toArray 109))
          generalize (w.alloc (.cells (Ins.cells ⟨op, a, b, imm⟩).toArray 109)) = W0 at bx0 hb0 ⊢
          obtain ⟨z0, z1, z2, z3⟩ := bx0.c4
          go_wp2_with (first
            | (go_at_call 111; (with_reducible refine (C0.out _).mono ?_); rintro e1 w1 ⟨rfl, rfl⟩)
            | (go_at_call 32; (with_reducible refine (CI.out _).mono ?_); rintro e1 w1 ⟨rfl, rfl⟩)
            | (go_at_call 112; first | ((with_reducible refine (C1.out _).mono ?_); rintro e1 w1 ⟨rfl, rfl⟩) | ((with_reducible refine (C2.out _).mono ?_); rintro e1 w1 ⟨rfl, rfl⟩)))
          all_goals go_ret
          all_goals first | exact ⟨rfl, hb0⟩
  · refine fin false (by unfold Ins.formed; rw [decide_eq_false h]; rfl) ?_
    have C0 : Hid (∀ w1, Calls Tryd.prog 111 #[.int .i64 op] w1 fun e w' => e = .returned (.tuple #[.string ⟨#[]⟩, .int .i64 0, .int .i64 0, .bool false]) ∧ w1 = w') := fun w1 => by have := r38_form op w1; unfold formR at this; rw [if_neg h] at this; exact this
    clear fin h
    go_enter Tryd.func104, Tryd.ntmps104
    go_wp2_with (go_at_call 111; (with_reducible refine (C0.out _).mono ?_); rintro e1 w1 ⟨rfl, rfl⟩)
    go_ret
    exact ⟨rfl, (Below.refl _ _).alloc (Nat.le_refl _) _⟩
end Go.Proofs.YtdiflpbioohddaaDoor
end
