/- Several texts in one: E1 T2 I0. -/
import Derived.Test.YtpdpcgeeneajjaaDoorsPltoK
import Derived.Test.YtpdpcgeeneajjaaDoorsQtoU3
import Derived.Test.YtpdpcgeeneajjaaDoorsJ2
import Derived.Deep.DeepCutAuto
import Derived.Maps.AppendAt
import Derived.Lib.SliceRun
set_option linter.unusedVariables false
set_option linter.unusedSimpArgs false
section
namespace Go.Proofs.YtpdpcgeeneajjaaDoor
open Go.RowKit
structure Ins where
  (op a b imm : Int)
deriving DecidableEq
def Ins.lst (i : Ins) : List Int := [i.op, i.a, i.b, i.imm]
abbrev Ins.v (i : Ins) : Value := .agg #[.int .i64 i.op, .int .i64 i.a, .int .i64 i.b, .int .i64 i.imm]
def Ins.ok (i : Ins) : Prop := I64 i.op ∧ I64 i.a ∧ I64 i.b ∧ I64 i.imm
def kA : Nat → Int
  | 2 => 1 | 3 => 2 | 4 => 3 | 5 => 1 | 6 => 1 | 7 => 1 | 8 => 3 | 9 => 1 | 10 => 1 | 11 => 1 | _ => 0
def kB : Nat → Int
  | 4 => 4 | 6 => 2 | 7 => 2 | 8 => 1 | 11 => 1 | _ => 0
def kC : Nat → Int
  | 2 => 5 | 3 => 5 | 4 => 5 | _ => 0
def fitsK (k v : Int) : Bool :=
  if k = 1 ∨ k = 3 then decide (0 ≤ v ∧ v < 8) else if k = 2 ∨ k = 4 then decide (0 ≤ v ∧ v < 128) else if k = 5 then decide (-8388608 ≤ v ∧ v ≤ 8388608) else decide (v = 0)
def Ins.formed (i : Ins) : Bool := decide (0 ≤ i.op ∧ i.op < 12) && fitsK (kA i.op.toNat) i.a && fitsK (kB i.op.toNat) i.b && fitsK (kC i.op.toNat) i.imm
def opWord : Nat → List Nat
  | 0 => [104, 97, 108, 116] | 1 => [99, 108, 101, 97, 114] | 2 => [109, 97, 99] | 3 => [109, 97, 99, 109] | 4 => [109, 97, 99, 99] | 5 => [114, 111, 117, 110, 100] | 6 => [108, 111, 97, 100] | 7 => [115, 116, 111, 114, 101] | 8 => [112, 117, 115, 104] | 9 => [105, 110] | 10 => [111, 117, 116] | _ => [109, 111, 118, 101]
structure FormsAt (w : World) : Prop where
  pos : 0 < w.heap.size
  cells : ∀ k, k < 12 → w.cell? ⟨0, k * 4 + 1, none⟩ = some (.int .i64 (kA k)) ∧ w.cell? ⟨0, k * 4 + 2, none⟩ = some (.int .i64 (kB k)) ∧ w.cell? ⟨0, k * 4 + 3, none⟩ = some (.int .i64 (kC k))
theorem FormsAt.grow {w w' : World} (h : FormsAt w) (hb : Below w.heap.size w w') : FormsAt w' :=
  ⟨Nat.lt_of_lt_of_le h.pos hb.size, fun k hk => by
    obtain ⟨h1, h2, h3⟩ := h.cells k hk
    exact ⟨(hb.cell (p := ⟨0, k * 4 + 1, none⟩) h.pos).trans h1, (hb.cell (p := ⟨0, k * 4 + 2, none⟩) h.pos).trans h2, (hb.cell (p := ⟨0, k * 4 + 3, none⟩) h.pos).trans h3⟩⟩
theorem kA_bound (k : Nat) : 0 ≤ kA k ∧ kA k ≤ 5 := by unfold kA; split <;> decide
theorem kB_bound (k : Nat) : 0 ≤ kB k ∧ kB k ≤ 5 := by unfold kB; split <;> decide
theorem kC_bound (k : Nat) : 0 ≤ kC k ∧ kC k ≤ 5 := by unfold kC; split <;> decide
theorem pr_fits (k v : Int) (w : World) (hk : 0 ≤ k ∧ k ≤ 5) : Calls Tryd.prog 41 #[.int .i64 k, .int .i64 v] w fun e w' => e = .returned (.bool (fitsK k v)) ∧ w = w' := by
  have fin : ∀ (c : Bool), fitsK k v = c → Calls Tryd.prog 41 #[.int .i64 k, .int .i64 v] w (fun e w' => e = .returned (.bool c) ∧ w = w') → Calls Tryd.prog 41 #[.int .i64 k, .int .i64 v] w fun e w' => e = .returned (.bool (fitsK k v)) ∧ w = w' := fun c h1 h2 => by rw [h1]; exact h2
  obtain rfl | rfl | rfl | rfl | rfl | rfl : k = 0 ∨ k = 1 ∨ k = 2 ∨ k = 3 ∨ k = 4 ∨ k = 5 := by omega
  · refine fin (v == 0) rfl ?_
    clear fin hk
    go_enter Tryd.func41, Tryd.ntmps41
    go_wp2_with fail
    go_ret
    exact ⟨rfl, rfl⟩
  · by_cases h : 0 ≤ v
    · by_cases h2 : v < 8
      · refine fin true (by simp [fitsK]; omega) ?_
        have d1 : decide (0 ≤ v) = true := decide_eq_true h
        have d2 : decide (v < 8) = true := decide_eq_true h2
        clear fin hk
        go_enter Tryd.func41, Tryd.ntmps41
        go_wp2_with fail
        go_ret
        exact ⟨rfl, rfl⟩
      · refine fin false (by simp [fitsK]; omega) ?_
        have d1 : decide (0 ≤ v) = true := decide_eq_true h
        have d2 : decide (v < 8) = false := decide_eq_false h2
        clear fin hk
        go_enter Tryd.func41, Tryd.ntmps41
        go_wp2_with fail
        go_ret
        exact ⟨rfl, rfl⟩
    · refine fin false (by simp [fitsK]; omega) ?_
      have d1 : decide (0 ≤ v) = false := decide_eq_false h
      clear fin hk
      go_enter Tryd.func41, Tryd.ntmps41
      go_wp2_with fail
      go_ret
      exact ⟨rfl, rfl⟩
  · by_cases h : 0 ≤ v
    · by_cases h2 : v < 128
      · refine fin true (by simp [fitsK]; omega) ?_
        have d1 : decide (0 ≤ v) = true := decide_eq_true h
        have d2 : decide (v < 128) = true := decide_eq_true h2
        clear fin hk
        go_enter Tryd.func41, Tryd.ntmps41
        go_wp2_with fail
        go_ret
        exact ⟨rfl, rfl⟩
      · refine fin false (by simp [fitsK]; omega) ?_
        have d1 : decide (0 ≤ v) = true := decide_eq_true h
        have d2 : decide (v < 128) = false := decide_eq_false h2
        clear fin hk
        go_enter Tryd.func41, Tryd.ntmps41
        go_wp2_with fail
        go_ret
        exact ⟨rfl, rfl⟩
    · refine fin false (by simp [fitsK]; omega) ?_
      have d1 : decide (0 ≤ v) = false := decide_eq_false h
      clear fin hk
      go_enter Tryd.func41, Tryd.ntmps41
      go_wp2_with fail
      go_ret
      exact ⟨rfl, rfl⟩
  · by_cases h : 0 ≤ v
    · by_cases h2 : v < 8
      · refine fin true (by simp [fitsK]; omega) ?_
        have d1 : decide (0 ≤ v) = true := decide_eq_true h
        have d2 : decide (v < 8) = true := decide_eq_true h2
        clear fin hk
        go_enter Tryd.func41, Tryd.ntmps41
        go_wp2_with fail
        go_ret
        exact ⟨rfl, rfl⟩
      · refine fin false (by simp [fitsK]; omega) ?_
        have d1 : decide (0 ≤ v) = true := decide_eq_true h
        have d2 : decide (v < 8) = false := decide_eq_false h2
        clear fin hk
        go_enter Tryd.func41, Tryd.ntmps41
        go_wp2_with fail
        go_ret
        exact ⟨rfl, rfl⟩
    · refine fin false (by simp [fitsK]; omega) ?_
      have d1 : decide (0 ≤ v) = false := decide_eq_false h
      clear fin hk
      go_enter Tryd.func41, Tryd.ntmps41
      go_wp2_with fail
      go_ret
      exact ⟨rfl, rfl⟩
  · by_cases h : 0 ≤ v
    · by_cases h2 : v < 128
      · refine fin true (by simp [fitsK]; omega) ?_
        have d1 : decide (0 ≤ v) = true := decide_eq_true h
        have d2 : decide (v < 128) = true := decide_eq_true h2
        clear fin hk
        go_enter Tryd.func41, Tryd.ntmps41
        go_wp2_with fail
        go_ret
        exact ⟨rfl, rfl⟩
      · refine fin false (by simp [fitsK]; omega) ?_
        have d1 : decide (0 ≤ v) = true := decide_eq_true h
        have d2 : decide (v < 128) = false := decide_eq_false h2
        clear fin hk
        go_enter Tryd.func41, Tryd.ntmps41
        go_wp2_with fail
        go_ret
        exact ⟨rfl, rfl⟩
    · refine fin false (by simp [fitsK]; omega) ?_
      have d1 : decide (0 ≤ v) = false := decide_eq_false h
      clear fin hk
      go_enter Tryd.func41, Tryd.ntmps41
      go_wp2_with fail
      go_ret
      exact ⟨rfl, rfl⟩
  · by_cases h : -8388608 ≤ v
    · by_cases h2 : v ≤ 8388608
      · refine fin true (by simp [fitsK]; omega) ?_
        have d1 : decide (-8388608 ≤ v) = true := decide_eq_true h
        have d2 : decide (v ≤ 8388608) = true := decide_eq_true h2
        clear fin hk
        go_enter Tryd.func41, Tryd.ntmps41
        go_wp2_with fail
        go_ret
        exact ⟨rfl, rfl⟩
      · refine fin false (by simp [fitsK]; omega) ?_
        have d1 : decide (-8388608 ≤ v) = true := decide_eq_true h
        have d2 : decide (v ≤ 8388608) = false := decide_eq_false h2
        clear fin hk
        go_enter Tryd.func41, Tryd.ntmps41
        go_wp2_with fail
        go_ret
        exact ⟨rfl, rfl⟩
    · refine fin false (by simp [fitsK]; omega) ?_
      have d1 : decide (-8388608 ≤ v) = false := decide_eq_false h
      clear fin hk
      go_enter Tryd.func41, Tryd.ntmps41
      go_wp2_with fail
      go_ret
      exact ⟨rfl, rfl⟩
def Ins.cells (i : Ins) : List Value := [.int .i64 i.op, .int .i64 i.a, .int .i64 i.b, .int .i64 i.imm]
theorem entryI (w : World) (i : Ins) : ∀ W, W = (w.alloc (.cells i.cells.toArray 50)) → Box W w.heap.size i.cells ∧ Below w.heap.size w W := fun W hW => by
  subst hW
  exact ⟨Box.new rfl, (Below.refl w.heap.size w).alloc (Nat.le_refl _) _⟩
set_option maxHeartbeats 2000000 in
set_option maxRecDepth 100000 in
theorem pr_formed (i : Ins) (w : World) (hf : FormsAt w) : Calls Tryd.prog 21 #[i.v] w fun e w' => e = .returned (.bool i.formed) ∧ Below w.heap.size w w' := by
  obtain ⟨op, a, b, imm⟩ := i
  have fin : ∀ (c : Bool), Ins.formed ⟨op, a, b, imm⟩ = c → Calls Tryd.prog 21 #[.agg #[.int .i64 op, .int .i64 a, .int .i64 b, .int .i64 imm]] w (fun e w' => e = .returned (.bool c) ∧ Below w.heap.size w w') → Calls Tryd.prog 21 #[Ins.v ⟨op, a, b, imm⟩] w fun e w' => e = .returned (.bool (Ins.formed ⟨op, a, b, imm⟩)) ∧ Below w.heap.size w w' := fun c h1 h2 => by rw [h1]; exact h2
  by_cases h0 : 0 ≤ op
  · by_cases h1 : op < 12
    · obtain ⟨k, rfl⟩ := Int.eq_ofNat_of_zero_le h0
      have hk : k < 12 := by omega
      obtain ⟨c1, c2, c3⟩ := hf.cells k hk
      obtain ⟨x, hx⟩ : ∃ x, fitsK (kA k) a = x := ⟨_, rfl⟩
      obtain ⟨y, hy⟩ : ∃ x, fitsK (kB k) b = x := ⟨_, rfl⟩
      obtain ⟨z, hz⟩ : ∃ x, fitsK (kC k) imm = x := ⟨_, rfl⟩
      refine fin (x && (y && z)) (by unfold Ins.formed; simp [hx, hy, hz, h0]; cases x <;> cases y <;> cases z <;> simp <;> omega) ?_
      have C1 : Hid (∀ w1, Calls Tryd.prog 41 #[.int .i64 (kA k), .int .i64 a] w1 fun e w' => e = .returned (.bool x) ∧ w1 = w') := fun w1 => by have := pr_fits (kA k) a w1 (kA_bound k); rw [hx] at this; exact this
      have C2 : Hid (∀ w1, Calls Tryd.prog 41 #[.int .i64 (kB k), .int .i64 b] w1 fun e w' => e = .returned (.bool y) ∧ w1 = w') := fun w1 => by have := pr_fits (kB k) b w1 (kB_bound k); rw [hy] at this; exact this
      have C3 : Hid (∀ w1, Calls Tryd.prog 41 #[.int .i64 (kC k), .int .i64 imm] w1 fun e w' => e = .returned (.bool z) ∧ w1 = w') := fun w1 => by have := pr_fits (kC k) imm w1 (kC_bound k); rw [hz] at this; exact this
      have hp := hf.pos
      clear fin hx hy hz hf h0
      generalize kA k = ka at c1 C1
      generalize kB k = kb at c2 C2
      generalize kC k = kc at c3 C3
      have hk1 : (k : Int) < 12 := by omega
      have hk0 : (0 : Int) ≤ (k : Int) := by omega
      clear h1
      go_enter Tryd.func21, Tryd.ntmps21
      go_upto_region 1 with fail
      obtain ⟨bx0, hb0⟩ := entryI w ⟨k, a, b, imm⟩ _ rfl
      change Code.wp _ _ _ _ (w.alloc (.cells (Ins.cells ⟨k, a, b, imm⟩).toArray 50))
      generalize (w.alloc (.cells (Ins.cells ⟨k, a, b, imm⟩).toArray 50)) = W0 at bx0 hb0 ⊢
      replace c1 := (hb0.cell (p := ⟨0, k * 4 + 1, none⟩) hp).trans c1
      replace c2 := (hb0.cell (p := ⟨0, k * 4 + 2, none⟩) hp).trans c2
      replace c3 := (hb0.cell (p := ⟨0, k * 4 + 3, none⟩) hp).trans c3
      obtain ⟨z0, z1, z2, z3⟩ := bx0.c4
      go_upto_region 4 with ((with_reducible show wpList _ _ _ (Oper.mk _ (.store _ _ _) _ _ _ _ :: _) _ _); refine wp_st (w := W0.alloc (.cells #[.int .i64 0, .int .i64 0, .int .i64 0] 88)) (vs' := [.int .i64 ka, .int .i64 kb, .int .i64 kc]) rfl _ _ _ rfl W0.heap.size 0 [.int .i64 ka, .int .i64 kb, .int .i64 kc] rfl rfl (by kernel_rfl) rfl (Box.new rfl) (by simp) rfl ?_; intro W1 b1 p1)
      have hb1 := put_facts ((Below.refl W0.heap.size W0).alloc (Nat.le_refl _) (.cells #[.int .i64 0, .int .i64 0, .int .i64 0] 88)) (Nat.le_refl _) p1
      obtain ⟨z0, z1, z2, z3⟩ := (Box.keep bx0 hb1).c4
      obtain ⟨y0, y1, y2⟩ := b1.c3
      clear c1 c2 c3 bx0
      generalize W0.heap.size = g1 at y0 y1 y2 ⊢
      cases x with
      | false =>
        go_wp2_with (go_at_call 41; (first | ((with_reducible refine (C1.out _).mono ?_); rintro e1 w1 ⟨rfl, rfl⟩) | ((with_reducible refine (C2.out _).mono ?_); rintro e1 w1 ⟨rfl, rfl⟩) | ((with_reducible refine (C3.out _).mono ?_); rintro e1 w1 ⟨rfl, rfl⟩)))
        go_ret
        exact ⟨rfl, below_then hb0 hb1⟩
      | true =>
        cases y with
        | false =>
          go_wp2_with (go_at_call 41; (first | ((with_reducible refine (C1.out _).mono ?_); rintro e1 w1 ⟨rfl, rfl⟩) | ((with_reducible refine (C2.out _).mono ?_); rintro e1 w1 ⟨rfl, rfl⟩) | ((with_reducible refine (C3.out _).mono ?_); rintro e1 w1 ⟨rfl, rfl⟩)))
          go_ret
          exact ⟨rfl, below_then hb0 hb1⟩
        | true =>
          go_wp2_with (go_at_call 41; (first | ((with_reducible refine (C1.out _).mono ?_); rintro e1 w1 ⟨rfl, rfl⟩) | ((with_reducible refine (C2.out _).mono ?_); rintro e1 w1 ⟨rfl, rfl⟩) | ((with_reducible refine (C3.out _).mono ?_); rintro e1 w1 ⟨rfl, rfl⟩)))
          go_ret
          exact ⟨rfl, below_then hb0 hb1⟩
    · refine fin false (by unfold Ins.formed; simp; omega) ?_
      have d1 : decide (op < 0) = false := decide_eq_false (by omega)
      have d2 : decide ((12 : Int) ≤ op) = true := decide_eq_true (by omega)
      clear fin hf
      go_enter Tryd.func21, Tryd.ntmps21
      go_wp2_with fail
      go_ret
      exact ⟨rfl, (Below.refl _ _).alloc (Nat.le_refl _) _⟩
  · refine fin false (by unfold Ins.formed; simp; omega) ?_
    have d1 : decide (op < 0) = true := decide_eq_true (by omega)
    clear fin hf
    go_enter Tryd.func21, Tryd.ntmps21
    go_wp2_with fail
    go_ret
    exact ⟨rfl, (Below.refl _ _).alloc (Nat.le_refl _) _⟩
end Go.Proofs.YtpdpcgeeneajjaaDoor
end
section
namespace Go.Proofs.YtpdpcgeeneajjaaDoor
open Go.RowKit
theorem own_below {a w w' : World} {b : Nat} {v : Value} (h : Below b a w) (hb : b ≤ w.heap.size) (hv : ∀ k, v.ownBlock = some k → b ≤ k) (hg : w.grownBy w' v.ownBlock) : Below b a w' := h.grown hg hb hv
theorem Own.ge {base : Nat} {w : World} {v : Value} {l : List Int} (h : Own base w v l) : ∀ k, v.ownBlock = some k → base ≤ k := fun k hk => (h.1.lt k hk).1
theorem Own.single {w : World} {x : Int} (hx : I64 x) : Own w.heap.size (w.alloc (.cells #[.int .i64 x] 3)) (.slice (some ⟨w.heap.size, 0, none⟩) 1 1) [x] := by
  refine ⟨?_, by simpa using hx⟩
  exact World.ownsRow_lit w #[.int .i64 x] 1 (Nat.le_refl _) (by unfold maxLen; omega) (by simp)
end Go.Proofs.YtpdpcgeeneajjaaDoor
end
section
namespace Go.Proofs.YtpdpcgeeneajjaaDoor
open Go.RowKit
def IntsF (b : Nat) (w : World) (A : Option Addr) (l : List Int) : Prop := Ints w A l ∧ (l ≠ [] → ∀ a, A = some a → b ≤ a.block)
theorem IntsF.nil {b : Nat} {w : World} {A : Option Addr} : IntsF b w A [] := ⟨Ints.nil, fun h => absurd rfl h⟩
theorem IntsF.base {b b' : Nat} {w : World} {A : Option Addr} {l : List Int} (h : IntsF b w A l) (hb : b' ≤ b) : IntsF b' w A l := ⟨h.1, fun hl a ha => Nat.le_trans hb (h.2 hl a ha)⟩
theorem IntsF.grow {b : Nat} {w w' : World} {A : Option Addr} {l : List Int} (h : IntsF b w A l) (hb : Below w.heap.size w w') : IntsF b w' A l := ⟨h.1.grow hb, h.2⟩
theorem IntsF.own {b n c : Nat} {w : World} {A : Option Addr} {l : List Int} (h : Own b w (.slice A n c) l) : IntsF b w A l := ⟨h.ints, fun _ a ha => by subst ha; exact (h.1.lt a.block rfl).1⟩
end Go.Proofs.YtpdpcgeeneajjaaDoor
end
