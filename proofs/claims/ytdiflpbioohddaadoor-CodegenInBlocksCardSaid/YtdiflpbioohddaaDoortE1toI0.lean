/- Several texts in one: E1 T1 T2 I0. -/
import Derived.Test.YtdiflpbioohddaaDoortPltoLa
import Derived.Test.YtdiflpbioohddaaDoortAtoV1
import Derived.Test.YtdiflpbioohddaaDoortUtoU3
import Derived.Test.YtdiflpbioohddaaDoortJ8
import Derived.Deep.DeepCutAuto
import Derived.Test.YtdiflpbioohddaaDoortG4toG8
import Derived.Test.YtdiflpbioohddaaDoortG9toVc
import Derived.Test.YtdiflpbioohddaaDoortV3toG3
import Derived.Lib.SliceRun
set_option linter.unusedVariables false
set_option linter.unusedSimpArgs false
section
namespace Go.Proofs.YtdiflpbioohddaaDoor
open Go.RowKit
structure Ins where
 (op a b imm : Int)
deriving DecidableEq
def Ins.lst (i : Ins) : List Int := [i.op, i.a, i.b, i.imm]
abbrev Ins.v (i : Ins) : Value := .agg #[.int .i64 i.op, .int .i64 i.a, .int .i64 i.b, .int .i64 i.imm]
def Ins.ok (i : Ins) : Prop := I64 i.op ∧ I64 i.a ∧ I64 i.b ∧ I64 i.imm
def kA : Nat → Int
 | 2 => 1 | 3 => 2 | 4 => 3 | 5 => 1 | 6 => 1 | 7 => 1 | 8 => 3 | 9 => 1 | 10 => 1 | 11 => 1 | _ => 0
def kB : Nat → Int
 | 4 => 4 | 6 => 2 | 7 => 2 | 8 => 1 | 11 => 1 | _ => 0
def kC : Nat → Int
 | 2 => 5 | 3 => 5 | 4 => 5 | _ => 0
def fitsK (k v : Int) : Bool :=
 if k = 1 ∨ k = 3 then decide (0 ≤ v ∧ v < 8) else if k = 2 ∨ k = 4 then decide (0 ≤ v ∧ v < 128) else if k = 5 then decide (-8388608 ≤ v ∧ v ≤ 8388608) else decide (v = 0)
def Ins.formed (i : Ins) : Bool := decide (0 ≤ i.op ∧ i.op < 12) && fitsK (kA i.op.toNat) i.a && fitsK (kB i.op.toNat) i.b && fitsK (kC i.op.toNat) i.imm
def opWord : Nat → List Nat
 | 0 => [104, 97, 108, 116] | 1 => [99, 108, 101, 97, 114] | 2 => [109, 97, 99] | 3 => [109, 97, 99, 109] | 4 => [109, 97, 99, 99] | 5 => [114, 111, 117, 110, 100] | 6 => [108, 111, 97, 100] | 7 => [115, 116, 111, 114, 101] | 8 => [112, 117, 115, 104] | 9 => [105, 110] | 10 => [111, 117, 116] | _ => [109, 111, 118, 101]
structure FormsAt (w : World) : Prop where
 pos : 0 < w.heap.size
 cells : ∀ k, k < 12 → w.cell? ⟨0, k * 4 + 1, none⟩ = some (.int .i64 (kA k)) ∧ w.cell? ⟨0, k * 4 + 2, none⟩ = some (.int .i64 (kB k)) ∧ w.cell? ⟨0, k * 4 + 3, none⟩ = some (.int .i64 (kC k))
theorem FormsAt.grow {w w' : World} (h : FormsAt w) (hb : Below w.heap.size w w') : FormsAt w' :=
 ⟨Nat.lt_of_lt_of_le h.pos hb.size, fun k hk => by
  obtain ⟨h1, h2, h3⟩ := h.cells k hk
  exact ⟨(hb.cell (p := ⟨0, k * 4 + 1, none⟩) h.pos).trans h1, (hb.cell (p := ⟨0, k * 4 + 2, none⟩) h.pos).trans h2, (hb.cell (p := ⟨0, k * 4 + 3, none⟩) h.pos).trans h3⟩⟩
theorem kA_bound (k : Nat) : 0 ≤ kA k ∧ kA k ≤ 5 := by unfold kA; split <;> decide
theorem kB_bound (k : Nat) : 0 ≤ kB k ∧ kB k ≤ 5 := by unfold kB; split <;> decide
theorem kC_bound (k : Nat) : 0 ≤ kC k ∧ kC k ≤ 5 := by unfold kC; split <;> decide
theorem pr_fits (k v : Int) (w : World) (hk : 0 ≤ k ∧ k ≤ 5) : Calls Tryd.prog 117 #[.int .i64 k, .int .i64 v] w fun e w' => e = .returned (.bool (fitsK k v)) ∧ w = w' := by
 have fin : ∀ (c : Bool), fitsK k v = c → Calls Tryd.prog 117 #[.int .i64 k, .int .i64 v] w (fun e w' => e = .returned (.bool c) ∧ w = w') → Calls Tryd.prog 117 #[.int .i64 k, .int .i64 v] w fun e w' => e = .returned (.bool (fitsK k v)) ∧ w = w' := fun c h1 h2 => by rw [h1]; exact h2
 obtain rfl | rfl | rfl | rfl | rfl | rfl : k = 0 ∨ k = 1 ∨ k = 2 ∨ k = 3 ∨ k = 4 ∨ k = 5 := by omega
 ·refine fin (v == 0) rfl ?_
  clear fin hk
  go_enter Tryd.func117, Tryd.ntmps117
  go_wp2_with fail
  go_ret
  exact ⟨rfl, rfl⟩
 ·by_cases h : 0 ≤ v
  ·by_cases h2 : v < 8
   ·refine fin true (by simp [fitsK]; omega) ?_
    have d1 : decide (0 ≤ v) = true := decide_eq_true h
    have d2 : decide (v < 8) = true := decide_eq_true h2
    clear fin hk
    go_enter Tryd.func117, Tryd.ntmps117
    go_wp2_with fail
    go_ret
    exact ⟨rfl, rfl⟩
   ·refine fin false (by simp [fitsK]; omega) ?_
    have d1 : decide (0 ≤ v) = true := decide_eq_true h
    have d2 : decide (v < 8) = false := decide_eq_false h2
    clear fin hk
    go_enter Tryd.func117, Tryd.ntmps117
    go_wp2_with fail
    go_ret
    exact ⟨rfl, rfl⟩
  ·refine fin false (by simp [fitsK]; omega) ?_
   have d1 : decide (0 ≤ v) = false := decide_eq_false h
   clear fin hk
   go_enter Tryd.func117, Tryd.ntmps117
   go_wp2_with fail
   go_ret
   exact ⟨rfl, rfl⟩
 ·by_cases h : 0 ≤ v
  ·by_cases h2 : v < 128
   ·refine fin true (by simp [fitsK]; omega) ?_
    have d1 : decide (0 ≤ v) = true := decide_eq_true h
    have d2 : decide (v < 128) = true := decide_eq_true h2
    clear fin hk
    go_enter Tryd.func117, Tryd.ntmps117
    go_wp2_with fail
    go_ret
    exact ⟨rfl, rfl⟩
   ·refine fin false (by simp [fitsK]; omega) ?_
    have d1 : decide (0 ≤ v) = true := decide_eq_true h
    have d2 : decide (v < 128) = false := decide_eq_false h2
    clear fin hk
    go_enter Tryd.func117, Tryd.ntmps117
    go_wp2_with fail
    go_ret
    exact ⟨rfl, rfl⟩
  ·refine fin false (by simp [fitsK]; omega) ?_
   have d1 : decide (0 ≤ v) = false := decide_eq_false h
   clear fin hk
   go_enter Tryd.func117, Tryd.ntmps117
   go_wp2_with fail
   go_ret
   exact ⟨rfl, rfl⟩
 ·by_cases h : 0 ≤ v
  ·by_cases h2 : v < 8
   ·refine fin true (by simp [fitsK]; omega) ?_
    have d1 : decide (0 ≤ v) = true := decide_eq_true h
    have d2 : decide (v < 8) = true := decide_eq_true h2
    clear fin hk
    go_enter Tryd.func117, Tryd.ntmps117
    go_wp2_with fail
    go_ret
    exact ⟨rfl, rfl⟩
   ·refine fin false (by simp [fitsK]; omega) ?_
    have d1 : decide (0 ≤ v) = true := decide_eq_true h
    have d2 : decide (v < 8) = false := decide_eq_false h2
    clear fin hk
    go_enter Tryd.func117, Tryd.ntmps117
    go_wp2_with fail
    go_ret
    exact ⟨rfl, rfl⟩
  ·refine fin false (by simp [fitsK]; omega) ?_
   have d1 : decide (0 ≤ v) = false := decide_eq_false h
   clear fin hk
   go_enter Tryd.func117, Tryd.ntmps117
   go_wp2_with fail
   go_ret
   exact ⟨rfl, rfl⟩
 ·by_cases h : 0 ≤ v
  ·by_cases h2 : v < 128
   ·refine fin true (by simp [fitsK]; omega) ?_
    have d1 : decide (0 ≤ v) = true := decide_eq_true h
    have d2 : decide (v < 128) = true := decide_eq_true h2
    clear fin hk
    go_enter Tryd.func117, Tryd.ntmps117
    go_wp2_with fail
    go_ret
    exact ⟨rfl, rfl⟩
   ·refine fin false (by simp [fitsK]; omega) ?_
    have d1 : decide (0 ≤ v) = true := decide_eq_true h
    have d2 : decide (v < 128) = false := decide_eq_false h2
    clear fin hk
    go_enter Tryd.func117, Tryd.ntmps117
    go_wp2_with fail
    go_ret
    exact ⟨rfl, rfl⟩
  ·refine fin false (by simp [fitsK]; omega) ?_
   have d1 : decide (0 ≤ v) = false := decide_eq_false h
   clear fin hk
   go_enter Tryd.func117, Tryd.ntmps117
   go_wp2_with fail
   go_ret
   exact ⟨rfl, rfl⟩
 ·by_cases h : -8388608 ≤ v
  ·by_cases h2 : v ≤ 8388608
   ·refine fin true (by simp [fitsK]; omega) ?_
    have d1 : decide (-8388608 ≤ v) = true := decide_eq_true h
    have d2 : decide (v ≤ 8388608) = true := decide_eq_true h2
    clear fin hk
    go_enter Tryd.func117, Tryd.ntmps117
    go_wp2_with fail
    go_ret
    exact ⟨rfl, rfl⟩
   ·refine fin false (by simp [fitsK]; omega) ?_
    have d1 : decide (-8388608 ≤ v) = true := decide_eq_true h
    have d2 : decide (v ≤ 8388608) = false := decide_eq_false h2
    clear fin hk
    go_enter Tryd.func117, Tryd.ntmps117
    go_wp2_with fail
    go_ret
    exact ⟨rfl, rfl⟩
  ·refine fin false (by simp [fitsK]; omega) ?_
   have d1 : decide (-8388608 ≤ v) = false := decide_eq_false h
   clear fin hk
   go_enter Tryd.func117, Tryd.ntmps117
   go_wp2_with fail
   go_ret
   exact ⟨rfl, rfl⟩
def Ins.cells (i : Ins) : List Value := [.int .i64 i.op, .int .i64 i.a, .int .i64 i.b, .int .i64 i.imm]
theorem entryI (w : World) (i : Ins) : ∀ W, W = (w.alloc (.cells i.cells.toArray 109)) → Box W w.heap.size i.cells ∧ Below w.heap.size w W := fun W hW => by
 subst hW
 exact ⟨Box.new rfl, (Below.refl w.heap.size w).alloc (Nat.le_refl _) _⟩
set_option maxHeartbeats 2000000 in
set_option maxRecDepth 100000 in
theorem pr_formed (i : Ins) (w : World) (hf : FormsAt w) : Calls Tryd.prog 110 #[i.v] w fun e w' => e = .returned (.bool i.formed) ∧ Below w.heap.size w w' := by
 obtain ⟨op, a, b, imm⟩ := i
 have fin : ∀ (c : Bool), Ins.formed ⟨op, a, b, imm⟩ = c → Calls Tryd.prog 110 #[.agg #[.int .i64 op, .int .i64 a, .int .i64 b, .int .i64 imm]] w (fun e w' => e = .returned (.bool c) ∧ Below w.heap.size w w') → Calls Tryd.prog 110 #[Ins.v ⟨op, a, b, imm⟩] w fun e w' => e = .returned (.bool (Ins.formed ⟨op, a, b, imm⟩)) ∧ Below w.heap.size w w' := fun c h1 h2 => by rw [h1]; exact h2
 by_cases h0 : 0 ≤ op
 ·by_cases h1 : op < 12
  ·obtain ⟨k, rfl⟩ := Int.eq_ofNat_of_zero_le h0
   have hk : k < 12 := by omega
   obtain ⟨c1, c2, c3⟩ := hf.cells k hk
   obtain ⟨x, hx⟩ : ∃ x, fitsK (kA k) a = x := ⟨_, rfl⟩
   obtain ⟨y, hy⟩ : ∃ x, fitsK (kB k) b = x := ⟨_, rfl⟩
   obtain ⟨z, hz⟩ : ∃ x, fitsK (kC k) imm = x := ⟨_, rfl⟩
   refine fin (x && (y && z)) (by unfold Ins.formed; simp [hx, hy, hz, h0]; cases x <;> cases y <;> cases z <;> simp <;> omega) ?_
   have C1 : Hid (∀ w1, Calls Tryd.prog 117 #[.int .i64 (kA k), .int .i64 a] w1 fun e w' => e = .returned (.bool x) ∧ w1 = w') := fun w1 => by have := pr_fits (kA k) a w1 (kA_bound k); rw [hx] at this; exact this
   have C2 : Hid (∀ w1, Calls Tryd.prog 117 #[.int .i64 (kB k), .int .i64 b] w1 fun e w' => e = .returned (.bool y) ∧ w1 = w') := fun w1 => by have := pr_fits (kB k) b w1 (kB_bound k); rw [hy] at this; exact this
   have C3 : Hid (∀ w1, Calls Tryd.prog 117 #[.int .i64 (kC k), .int .i64 imm] w1 fun e w' => e = .returned (.bool z) ∧ w1 = w') := fun w1 => by have := pr_fits (kC k) imm w1 (kC_bound k); rw [hz] at this; exact this
   have hp := hf.pos
   clear fin hx hy hz hf h0
   generalize kA k = ka at c1 C1
   generalize kB k = kb at c2 C2
   generalize kC k = kc at c3 C3
   have hk1 : (k : Int) < 12 := by omega
   have hk0 : (0 : Int) ≤ (k : Int) := by omega
   clear h1
   go_enter Tryd.func110, Tryd.ntmps110
   go_upto_region 1 with fail
   obtain ⟨bx0, hb0⟩ := entryI w ⟨k, a, b, imm⟩ _ rfl
   change Code.wp _ _ _ _ (w.alloc (.cells (Ins.cells ⟨k, a, b, imm⟩).toArray 109))
   generalize (w.alloc (.cells (Ins.cells ⟨k, a, b, imm⟩).toArray 109)) = W0 at bx0 hb0 ⊢
   replace c1 := (hb0.cell (p := ⟨0, k * 4 + 1, none⟩) hp).trans c1
   replace c2 := (hb0.cell (p := ⟨0, k * 4 + 2, none⟩) hp).trans c2
   replace c3 := (hb0.cell (p := ⟨0, k * 4 + 3, none⟩) hp).trans c3
   obtain ⟨z0, z1, z2, z3⟩ := bx0.c4
   go_upto_region 4 with ((with_reducible show wpList _ _ _ (Oper.mk _ (.store _ _ _) _ _ _ _ :: _) _ _); refine wp_st (w := W0.alloc (.cells #[.int .i64 0, .int .i64 0, .int .i64 0] 158)) (vs' := [.int .i64 ka, .int .i64 kb, .int .i64 kc]) rfl _ _ _ rfl W0.heap.size 0 [.int .i64 ka, .int .i64 kb, .int .i64 kc] rfl rfl (by kernel_rfl) rfl (Box.new rfl) (by simp) rfl ?_; intro W1 b1 p1)
   have hb1 := put_facts ((Below.refl W0.heap.size W0).alloc (Nat.le_refl _) (.cells #[.int .i64 0, .int .i64 0, .int .i64 0] 158)) (Nat.le_refl _) p1
   obtain ⟨z0, z1, z2, z3⟩ := (Box.keep bx0 hb1).c4
   obtain ⟨y0, y1, y2⟩ := b1.c3
   clear c1 c2 c3 bx0
   generalize W0.heap.size = g1 at y0 y1 y2 ⊢
   cases x with
   | false =>
    go_wp2_with (go_at_call 117; (first | ((with_reducible refine (C1.out _).mono ?_); rintro e1 w1 ⟨rfl, rfl⟩) | ((with_reducible refine (C2.out _).mono ?_); rintro e1 w1 ⟨rfl, rfl⟩) | ((with_reducible refine (C3.out _).mono ?_); rintro e1 w1 ⟨rfl, rfl⟩)))
    go_ret
    exact ⟨rfl, below_then hb0 hb1⟩
   | true =>
    cases y with
    | false =>
     go_wp2_with (go_at_call 117; (first | ((with_reducible refine (C1.out _).mono ?_); rintro e1 w1 ⟨rfl, rfl⟩) | ((with_reducible refine (C2.out _).mono ?_); rintro e1 w1 ⟨rfl, rfl⟩) | ((with_reducible refine (C3.out _).mono ?_); rintro e1 w1 ⟨rfl, rfl⟩)))
     go_ret
     exact ⟨rfl, below_then hb0 hb1⟩
    | true =>
     go_wp2_with (go_at_call 117; (first | ((with_reducible refine (C1.out _).mono ?_); rintro e1 w1 ⟨rfl, rfl⟩) | ((with_reducible refine (C2.out _).mono ?_); rintro e1 w1 ⟨rfl, rfl⟩) | ((with_reducible refine (C3.out _).mono ?_); rintro e1 w1 ⟨rfl, rfl⟩)))
     go_ret
     exact ⟨rfl, below_then hb0 hb1⟩
  ·refine fin false (by unfold Ins.formed; simp; omega) ?_
   have d1 : decide (op < 0) = false := decide_eq_false (by omega)
   have d2 : decide ((12 : Int) ≤ op) = true := decide_eq_true (by omega)
   clear fin hf
   go_enter Tryd.func110, Tryd.ntmps110
   go_wp2_with fail
   go_ret
   exact ⟨rfl, (Below.refl _ _).alloc (Nat.le_refl _) _⟩
 ·refine fin false (by unfold Ins.formed; simp; omega) ?_
  have d1 : decide (op < 0) = true := decide_eq_true (by omega)
  clear fin hf
  go_enter Tryd.func110, Tryd.ntmps110
  go_wp2_with fail
  go_ret
  exact ⟨rfl, (Below.refl _ _).alloc (Nat.le_refl _) _⟩
end Go.Proofs.YtdiflpbioohddaaDoor
end
section
namespace Go.Proofs.YtdiflpbioohddaaDoor
open Go.RowKit
def sumT (ts : List (Int × Int)) (vs : List Int) : Nat → Int
 | 0 => 0
 | i + 1 => sumT ts vs i + (match ts[i]? with | some t => t.2 * atF vs t.1 | none => 0)
def nodeV (d2 c1 : Int) (vs : List Int) (ts : List (Int × Int)) : Int := shiftF (sumT ts vs ts.length) c1 d2
def valsF (d0 d1 d2 d3 c1 : Int) (ns : List (List (Int × Int))) (x : List Int) : Nat → List Int
 | 0 => x
 | k + 1 => valsF d0 d1 d2 d3 c1 ns x k ++ (match ns[k]? with | some ts => [reduceW d0 d1 d2 d3 (nodeV d2 c1 (valsF d0 d1 d2 d3 c1 ns x k) ts)] | none => [])
def overF (d0 d1 d2 d3 c1 : Int) (ns : List (List (Int × Int))) (x : List Int) : Nat → Bool
 | 0 => false
 | k + 1 => overF d0 d1 d2 d3 c1 ns x k || (match ns[k]? with | some ts => !fitsW d0 d1 d2 d3 (nodeV d2 c1 (valsF d0 d1 d2 d3 c1 ns x k) ts) | none => false)
theorem valsF_succ {d0 d1 d2 d3 c1 : Int} {ns : List (List (Int × Int))} {x : List Int} {k : Nat} {ts : List (Int × Int)} (h : ns[k]? = some ts) :
  valsF d0 d1 d2 d3 c1 ns x (k + 1) = valsF d0 d1 d2 d3 c1 ns x k ++ [reduceW d0 d1 d2 d3 (nodeV d2 c1 (valsF d0 d1 d2 d3 c1 ns x k) ts)] := by
 show valsF d0 d1 d2 d3 c1 ns x k ++ _ = _
 rw [h]
theorem overF_succ {d0 d1 d2 d3 c1 : Int} {ns : List (List (Int × Int))} {x : List Int} {k : Nat} {ts : List (Int × Int)} (h : ns[k]? = some ts) :
  overF d0 d1 d2 d3 c1 ns x (k + 1) = (overF d0 d1 d2 d3 c1 ns x k || !fitsW d0 d1 d2 d3 (nodeV d2 c1 (valsF d0 d1 d2 d3 c1 ns x k) ts)) := by
 show (overF d0 d1 d2 d3 c1 ns x k || _) = _
 rw [h]
theorem valsF_length (d0 d1 d2 d3 c1 : Int) (ns : List (List (Int × Int))) (x : List Int) : ∀ k, k ≤ ns.length → (valsF d0 d1 d2 d3 c1 ns x k).length = x.length + k
 | 0, _ => rfl
 | k + 1, h => by
  obtain ⟨ts, hts⟩ : ∃ ts, ns[k]? = some ts := ⟨_, List.getElem?_eq_getElem (by omega)⟩
  rw [valsF_succ hts, List.length_append, valsF_length d0 d1 d2 d3 c1 ns x k (by omega)]
  simp
  omega
theorem valsF_fits {d0 d1 d2 d3 c1 : Int} {ns : List (List (Int × Int))} {x : List Int} (hd : okW d0 d1 d2 d3 = true) (hx : ∀ v ∈ x, fitsW d0 d1 d2 d3 v = true) : ∀ k, ∀ v ∈ valsF d0 d1 d2 d3 c1 ns x k, fitsW d0 d1 d2 d3 v = true
 | 0 => hx
 | k + 1 => fun v hv => by
  change v ∈ valsF d0 d1 d2 d3 c1 ns x k ++ (match ns[k]? with | some ts => [reduceW d0 d1 d2 d3 (nodeV d2 c1 (valsF d0 d1 d2 d3 c1 ns x k) ts)] | none => []) at hv
  rcases List.mem_append.1 hv with h | h
  ·exact valsF_fits hd hx k v h
  ·split at h
   ·rw [List.mem_singleton] at h; subst h; exact fits_reduce hd _
   ·cases h
def followF (nx vs : List Int) : List Int := nx.map (atF vs)
theorem pow_23 {b : Int} (h1 : 4 ≤ b) (h2 : b ≤ 24) : (2 : Int) ^ (b - 1).toNat ≤ 8388608 := by
 have : (2 : Int) ^ (b - 1).toNat ≤ 2 ^ 23 := pow_le (by omega)
 simpa using this
theorem fits_23 {b f r o v : Int} (h : fitsW b f r o v = true) : -8388608 ≤ v ∧ v ≤ 8388608 := by
 obtain ⟨hc, h1, h2⟩ := fits_iff.1 h
 obtain ⟨a1, a2, _⟩ := okW_iff.1 hc
 have hp := pow_23 a1 a2
 unfold lowW at h1
 unfold highW at h2
 rw [if_pos hc] at h1 h2
 omega
theorem term_23 {c0 c1 c2 c3 last : Int} {t : Int × Int} (hc : okW c0 c1 c2 c3 = true) (h : termB c0 c1 c2 c3 last t = true) : (0 ≤ t.1 ∧ t.1 ≤ last) ∧ -8388608 ≤ t.2 ∧ t.2 ≤ 8388608 := by
 unfold termB at h
 simp only [Bool.and_eq_true, Bool.or_eq_true, beq_iff_eq] at h
 refine ⟨inB_iff.1 h.1, ?_⟩
 rcases h.2 with h | h
 ·exact fits_23 h
 ·obtain ⟨a1, a2, a3, a4, _⟩ := okW_iff.1 hc
  have := pow_23 a1 a2
  have h3 : (2 : Int) ^ c1.toNat ≤ 2 ^ (c0 - 1).toNat := pow_le (by omega)
  have h4 : 0 < (2 : Int) ^ c1.toNat := pow_pos' _
  omega
theorem prod_46 {a b : Int} (ha : -8388608 ≤ a ∧ a ≤ 8388608) (hb : -8388608 ≤ b ∧ b ≤ 8388608) : -70368744177664 ≤ a * b ∧ a * b ≤ 70368744177664 := by
 have h : (a * b).natAbs ≤ 8388608 * 8388608 := by
  rw [Int.natAbs_mul]
  exact Nat.mul_le_mul (by omega) (by omega)
 omega
theorem atF_23 {vs : List Int} (hv : ∀ v ∈ vs, -8388608 ≤ v ∧ v ≤ 8388608) (i : Int) : -8388608 ≤ atF vs i ∧ atF vs i ≤ 8388608 := by
 unfold atF
 split
 ·cases h : vs[i.toNat]? with
  | none => simp
  | some v => exact hv v (List.mem_of_getElem? h)
 ·simp
theorem sumT_bound {ts : List (Int × Int)} {vs : List Int} (ht : ∀ t ∈ ts, -8388608 ≤ t.2 ∧ t.2 ≤ 8388608) (hv : ∀ v ∈ vs, -8388608 ≤ v ∧ v ≤ 8388608) : ∀ i : Nat, -(70368744177664 * (i : Int)) ≤ sumT ts vs i ∧ sumT ts vs i ≤ 70368744177664 * (i : Int)
 | 0 => by simp [sumT]
 | i + 1 => by
  have ih := sumT_bound ht hv i
  show -(70368744177664 * ((i + 1 : Nat) : Int)) ≤ sumT ts vs i + _ ∧ sumT ts vs i + _ ≤ _
  cases h : ts[i]? with
  | none => simp only []; omega
  | some t =>
   have := prod_46 (ht t (List.mem_of_getElem? h)) (atF_23 hv t.1)
   simp only []
   omega
end Go.Proofs.YtdiflpbioohddaaDoor
end
section
namespace Go.Proofs.YtdiflpbioohddaaDoor
open Go.RowKit
theorem mk_int0 {ops : Array Oper} {rest : List Oper} {o : Oper} {a : Act} {Q : Exit → Act → World → Prop} {w : World} (hg : o.guard = none) (s c : Operand) (hop : o.op = Op.makeSlice 25 s c)
  (base n : Nat) {N : Int} (hs : a.eval s = .int .i64 0) (hc : a.eval c = .int .i64 N) (hN : N = (n : Int)) (hn : n ≤ 100000000) (hb : base ≤ w.heap.size)
  (h : ∀ w', Own base w' (.slice (some ⟨w.heap.size, 0, none⟩) 0 n) [] → Below w.heap.size w w' → wpList Tryd.prog ops Q rest (a.put o.dst (.slice (some ⟨w.heap.size, 0, none⟩) 0 n)) w') :
  wpList Tryd.prog ops Q (o :: rest) a w := by
 subst hN
 obtain ⟨i0, hi, hz0, hz1, hz2⟩ := info_parts info_int
 refine wpList_make_own w hg s c 25 hop base 3 i0 (.int .i64 0) 1 Tryd.underlying25 hi hz0 hz1 .i64 .i64 n n hs hc rfl (by rw [hz2]; omega) (by unfold maxLen; omega) hb fun w' h1 h2 => h w' ⟨h1, by simp⟩ ((Below.refl _ _).grown h2 (Nat.le_refl _) (by intro k hk; cases hk))
theorem own_below {a w w' : World} {b : Nat} {v : Value} (h : Below b a w) (hb : b ≤ w.heap.size) (hv : ∀ k, v.ownBlock = some k → b ≤ k) (hg : w.grownBy w' v.ownBlock) : Below b a w' := h.grown hg hb hv
theorem Own.ge {base : Nat} {w : World} {v : Value} {l : List Int} (h : Own base w v l) : ∀ k, v.ownBlock = some k → base ≤ k := fun k hk => (h.1.lt k hk).1
theorem Own.single {w : World} {x : Int} (hx : I64 x) : Own w.heap.size (w.alloc (.cells #[.int .i64 x] 3)) (.slice (some ⟨w.heap.size, 0, none⟩) 1 1) [x] := by
 refine ⟨?_, by simpa using hx⟩
 exact World.ownsRow_lit w #[.int .i64 x] 1 (Nat.le_refl _) (by unfold maxLen; omega) (by simp)
theorem app_intsN {ops : Array Oper} {rest : List Oper} {o : Oper} {a : Act} {Q : Exit → Act → World → Prop} (w : World) (hg : o.guard = none) (s x : Operand) (ho : o.op = .call { callee := .builtin .append, args := #[s, x], argTypes := #[25, 25] })
  (base : Nat) {v : Value} {l m : List Int} {A : Option Addr} {c n : Nat} (hs : a.eval s = v) (hx : a.eval x = .slice A n c) (hm : m.length = n) (hown : Own base w v l) (hI : Ints w A m) (hn : l.length + n ≤ 100000000) (hbase : base ≤ w.heap.size)
  (h : ∀ v' w', Own base w' v' (l ++ m) → Below base w w' → wpList Tryd.prog ops Q rest (a.put o.dst v') w') : wpList Tryd.prog ops Q (o :: rest) a w := by
 subst hm
 exact app_ints w hg s x ho base hs hx hown hI hn hbase fun v' w' h1 h2 _ => h v' w' h1 (own_below (Below.refl _ _) hbase hown.ge h2)
structure NetQ (w : World) (P : World → Prop) (d0 d1 d2 d3 c0 c1 c2 c3 st : Int) (NA : Option Addr) (ns : List (List (Int × Int))) (nn nc : Nat) (XA : Option Addr) (nx : List Int) (xn xc : Nat) (out : Int) : Prop where
 go : ∀ w1 w2, P w1 → Below (w.heap.size + 1) w1 w2 → P w2
 old : ∀ w1, P w1 → Below w.heap.size w w1
 dat : ∀ w1, P w1 → w1.cell? ⟨w.heap.size, 0, none⟩ = some (.int .i64 d0) ∧ w1.cell? ⟨w.heap.size, 1, none⟩ = some (.int .i64 d1) ∧ w1.cell? ⟨w.heap.size, 2, none⟩ = some (.int .i64 d2) ∧ w1.cell? ⟨w.heap.size, 3, none⟩ = some (.int .i64 d3)
 coe : ∀ w1, P w1 → w1.cell? ⟨w.heap.size, 4, none⟩ = some (.int .i64 c0) ∧ w1.cell? ⟨w.heap.size, 5, none⟩ = some (.int .i64 c1) ∧ w1.cell? ⟨w.heap.size, 6, none⟩ = some (.int .i64 c2) ∧ w1.cell? ⟨w.heap.size, 7, none⟩ = some (.int .i64 c3)
 res : ∀ w1, P w1 → w1.cell? ⟨w.heap.size, 8, none⟩ = some (.int .i64 st) ∧ w1.cell? ⟨w.heap.size, 9, none⟩ = some (.slice NA nn nc) ∧ w1.cell? ⟨w.heap.size, 10, none⟩ = some (.slice XA xn xc) ∧ w1.cell? ⟨w.heap.size, 11, none⟩ = some (.int .i64 out)
 nodes : ∀ w1, P w1 → NodesAt w1 NA ns
 next : ∀ w1, P w1 → Ints w1 XA nx
 lt : ∀ w1, P w1 → w.heap.size + 1 ≤ w1.heap.size
theorem NetQ.go1 {w : World} {P : World → Prop} {d0 d1 d2 d3 c0 c1 c2 c3 st : Int} {NA : Option Addr} {ns : List (List (Int × Int))} {nn nc : Nat} {XA : Option Addr} {nx : List Int} {xn xc : Nat} {out : Int} (h : NetQ w P d0 d1 d2 d3 c0 c1 c2 c3 st NA ns nn nc XA nx xn xc out) {w1 w2 : World} (h1 : P w1) (h2 : Below w1.heap.size w1 w2) : P w2 := h.go w1 w2 h1 (h2.mono (h.lt w1 h1))
theorem NetQ.al {w : World} {P : World → Prop} {d0 d1 d2 d3 c0 c1 c2 c3 st : Int} {NA : Option Addr} {ns : List (List (Int × Int))} {nn nc : Nat} {XA : Option Addr} {nx : List Int} {xn xc : Nat} {out : Int} (h : NetQ w P d0 d1 d2 d3 c0 c1 c2 c3 st NA ns nn nc XA nx xn xc out) {w1 : World} (h1 : P w1) (o : Obj) : P (w1.alloc o) := h.go1 h1 ((Below.refl _ _).alloc (Nat.le_refl _) o)
theorem netQ_mk (w : World) (d0 d1 d2 d3 c0 c1 c2 c3 st : Int) (NA : Option Addr) (ns : List (List (Int × Int))) (nn nc : Nat) (XA : Option Addr) (nx : List Int) (xn xc : Nat) (out : Int) (hN : NodesAt w NA ns) (hX : Ints w XA nx) :
  ∃ P : World → Prop, P (w.alloc (.cells #[.int .i64 d0, .int .i64 d1, .int .i64 d2, .int .i64 d3, .int .i64 c0, .int .i64 c1, .int .i64 c2, .int .i64 c3, .int .i64 st, .slice NA nn nc, .slice XA xn xc, .int .i64 out] 27)) ∧ NetQ w P d0 d1 d2 d3 c0 c1 c2 c3 st NA ns nn nc XA nx xn xc out := by
 refine ⟨Below (w.heap.size + 1) (w.alloc (.cells #[.int .i64 d0, .int .i64 d1, .int .i64 d2, .int .i64 d3, .int .i64 c0, .int .i64 c1, .int .i64 c2, .int .i64 c3, .int .i64 st, .slice NA nn nc, .slice XA xn xc, .int .i64 out] 27)), Below.refl _ _, ?_⟩
 have a : ∀ (k : Nat) {w'} (h : Below (w.heap.size + 1) (w.alloc (.cells #[.int .i64 d0, .int .i64 d1, .int .i64 d2, .int .i64 d3, .int .i64 c0, .int .i64 c1, .int .i64 c2, .int .i64 c3, .int .i64 st, .slice NA nn nc, .slice XA xn xc, .int .i64 out] 27)) w'),
   w'.cell? ⟨w.heap.size, k, none⟩ = (w.alloc (.cells #[.int .i64 d0, .int .i64 d1, .int .i64 d2, .int .i64 d3, .int .i64 c0, .int .i64 c1, .int .i64 c2, .int .i64 c3, .int .i64 st, .slice NA nn nc, .slice XA xn xc, .int .i64 out] 27)).cell? ⟨w.heap.size, k, none⟩ := fun k w' h => h.cell (Nat.lt_succ_self _)
 exact ⟨fun w1 w2 h1 h2 => h1.trans h2, fun w1 h1 => below_net2 h1,
  fun w' h => ⟨(a 0 h).trans (by simp [go_sem]), (a 1 h).trans (by simp [go_sem]), (a 2 h).trans (by simp [go_sem]), (a 3 h).trans (by simp [go_sem])⟩,
  fun w' h => ⟨(a 4 h).trans (by simp [go_sem]), (a 5 h).trans (by simp [go_sem]), (a 6 h).trans (by simp [go_sem]), (a 7 h).trans (by simp [go_sem])⟩,
  fun w' h => ⟨(a 8 h).trans (by simp [go_sem]), (a 9 h).trans (by simp [go_sem]), (a 10 h).trans (by simp [go_sem]), (a 11 h).trans (by simp [go_sem])⟩,
  fun w1 h1 => hN.grow (below_net2 h1), fun w1 h1 => hX.grow (below_net2 h1), fun w1 h1 => by have := h1.size; simp at this; omega⟩
theorem netB_parts {d0 d1 d2 d3 c0 c1 c2 c3 st out : Int} {ns : List (List (Int × Int))} {nx : List Int} (h : netB d0 d1 d2 d3 c0 c1 c2 c3 st ns nx out = true) :
  okW d0 d1 d2 d3 = true ∧ okW c0 c1 c2 c3 = true ∧ (0 ≤ st ∧ st ≤ 64) ∧ ns.length ≤ 64 ∧ st = (nx.length : Int) ∧ (∀ (k : Nat) ts, ns[k]? = some ts → ts.length ≤ 64 ∧ ∀ t ∈ ts, (0 ≤ t.1 ∧ t.1 ≤ st + k) ∧ -8388608 ≤ t.2 ∧ t.2 ≤ 8388608) ∧
  (∀ v ∈ nx, 0 ≤ v ∧ v ≤ st + ns.length) ∧ 0 ≤ out ∧ out ≤ st + ns.length := by
 unfold netB netHeadB at h
 simp only [Bool.and_eq_true, decide_eq_true_eq, beq_iff_eq] at h
 obtain ⟨⟨h1, h2, h3, h4, h5⟩, h6, h7, h8⟩ := h
 refine ⟨h1, h2, inB_iff.1 h3, h4, h5.symm, fun k ts hk => ?_, fun v hv => inB_iff.1 (List.all_eq_true.1 h7 v hv), inB_iff.1 h8⟩
 have hk' := (List.getElem?_eq_some_iff.1 hk).1
 unfold nodesB at h6
 have := List.all_eq_true.1 h6 k (List.mem_range.2 hk')
 rw [hk] at this
 simp only [nodeB, Bool.and_eq_true, decide_eq_true_eq] at this
 exact ⟨this.1, fun t ht => term_23 h2 (List.all_eq_true.1 this.2 t ht)⟩
theorem foS_set {nx vs : List Int} {S k : Nat} {y : Int} (hk : nx[k]? = some y) (h : k < S) (hl : nx.length = S) :
  ((nx.take k).map (atF vs) ++ List.replicate (S - k) 0).set k (atF vs y) = (nx.take (k + 1)).map (atF vs) ++ List.replicate (S - (k + 1)) 0 := by
 have hl2 : ((nx.take k).map (atF vs)).length = k := by simp; omega
 rw [List.set_append_right _ _ (by omega), hl2, Nat.sub_self, take_snoc' hk, List.map_append, List.append_assoc]
 congr 1
 rw [show S - k = (S - (k + 1)) + 1 by omega, List.replicate_succ, List.set_cons_zero]
 rfl
set_option maxHeartbeats 1000000 in
theorem nw_follow (d0 d1 d2 d3 c0 c1 c2 c3 st out : Int) (NA XA VA : Option Addr) (nc xc vn vc : Nat) (ns : List (List (Int × Int))) (nx vs : List Int) (w : World) (hN : NodesAt w NA ns) (hX : Ints w XA nx) (hV : Ints w VA vs) (hvn : vs.length = vn) (hv9 : vn ≤ 1000000)
  (hst : st = (nx.length : Int)) (h64 : nx.length ≤ 64) (hin : ∀ v ∈ nx, 0 ≤ v ∧ v < (vn : Int)) :
  Calls Tryd.prog 54 #[netV d0 d1 d2 d3 c0 c1 c2 c3 st NA ns.length nc XA nx.length xc out, .slice VA vn vc] w (RetInts1 w (followF nx vs)) := by
 subst hst
 obtain ⟨xn, hxn⟩ : ∃ n, nx.length = n := ⟨_, rfl⟩
 have HXN := Lib.hid hxn
 obtain ⟨P, HP0, PN0⟩ := netQ_mk w d0 d1 d2 d3 c0 c1 c2 c3 (nx.length : Int) NA ns ns.length nc XA nx nx.length xc out hN hX
 rw [hxn] at HP0 PN0 h64
 obtain ⟨nn, hnn⟩ : ∃ n, ns.length = n := ⟨_, rfl⟩
 rw [hnn] at HP0 PN0
 unfold netV
 rw [hnn, hxn]
 have HP := Lib.hid HP0
 have PN := Lib.hid PN0
 have HIN := Lib.hid hin
 have HV := Lib.hid hV
 have HVN := Lib.hid hvn
 clear HP0 PN0 hnn hxn hN hX hin hV hvn
 go_enter Tryd.func54, Tryd.ntmps54
 go_wp2_with (first | (at_make; refine mk_int rfl _ _ rfl (w.heap.size + 1) xn rfl rfl rfl (by omega) (by simp) ?_; intro w1 hown1 hb1; have hp1 := PN.out.go1 HP.out hb1; obtain ⟨z1, z2, z3, z4⟩ := PN.out.res _ hp1))
 have hg : w.heap.size + 1 < w1.heap.size := by have := hown1.block; simp at this; omega
 have HO : Hid (Own (w.heap.size + 1) w1 (.slice (some ⟨w.heap.size + 1, 0, none⟩) xn xn) ((nx.take 0).map (atF vs) ++ List.replicate (xn - 0) 0)) := Lib.hid (by simpa using hown1)
 have HP1 := Lib.hid hp1
 clear hp1 hown1 hb1 z1 z2 z3 z4
 go_loopw [14] (fun i wr => ∃ k : Nat, k ≤ xn ∧ i = .int .i64 k ∧ Hid (Own (w.heap.size + 1) wr (.slice (some ⟨w.heap.size + 1, 0, none⟩) xn xn) ((nx.take k).map (atF vs) ++ List.replicate (xn - k) 0)) ∧ P wr) (fun i _ => xn - (intOf i).toNat)
 case atStart => exact ⟨0, Nat.zero_le _, rfl, HO, HP1.out⟩
 case round =>
  obtain ⟨k, hk, rfl, HO, hp⟩ := hrel
  by_cases hlt : k < xn
  ·obtain ⟨ad, y, rfl, hba, hy, hcy, y1, y2⟩ := (PN.out.next _ hp).at_ (k := k) (by rw [HXN.out]; exact hlt)
   obtain ⟨v1, v2⟩ := HIN.out y (List.mem_of_getElem? hy)
   obtain ⟨j, rfl⟩ : ∃ j : Nat, y = (j : Int) := ⟨y.toNat, by omega⟩
   obtain ⟨av, z, rfl, hbv, hz, hcz, z1, z2⟩ := (HV.out.grow (PN.out.old _ hp)).at_ (k := j) (by rw [HVN.out]; omega)
   have HS := Lib.hid (foS_set (vs := vs) hy hlt HXN.out)
   rw [atF_nat hz] at HS
   have hfr := HO.out.free k
   have hnw : ((nx.take k).map (atF vs) ++ List.replicate (xn - k) 0)[k]? = some 0 := by
    have hl0 : ((nx.take k).map (atF vs)).length = k := by simp [HXN.out]; omega
    rw [List.getElem?_append_right (by omega), hl0, Nat.sub_self, List.getElem?_replicate, if_pos (by omega)]
   have hcn := HO.out.cell hnw
   have hset := HO.out.set k (y := z) ⟨z1, z2⟩
   have hbs := HO.out.block
   have hp2 : P (wr.setCell ⟨w.heap.size + 1, k, none⟩ (.int .i64 z)) := PN.out.go _ _ hp (below_set (Below.refl _ _) (Nat.le_refl _))
   have HP2 := Lib.hid hp2
   have HSET := Lib.hid hset
   have x1 : (0 : Int) ≤ (k : Int) := by omega
   have x2 : (k : Int) < (xn : Int) := by omega
   clear hp hp2 hset hy hz hnw
   go_wp2_with fail
   go_roundw
   case rel => exact ⟨k + 1, by omega, by go_num, by rw [← HS.out]; exact HSET.out, HP2.out⟩
   case measure => simp [intOf]; omega
  ·obtain rfl : k = xn := by omega
   have HPP := Lib.hid hp
   clear hp
   go_wp2_with fail
   go_ret
   refine ⟨_, rfl, ?_, PN.out.old _ HPP.out⟩
   have := HO.out
   rw [← HXN.out, List.take_length, Nat.sub_self, List.replicate_zero, List.append_nil] at this
   have hb := this.base (Nat.le_succ _)
   rw [HXN.out] at hb
   exact hb
end Go.Proofs.YtdiflpbioohddaaDoor
end
section
namespace Go.Proofs.YtdiflpbioohddaaDoor
open Go.RowKit
theorem ints_none {w : World} {l : List Int} (h : Ints w none l) : l = [] := by
 cases l with
 | nil => rfl
 | cons x t => obtain ⟨ad, _, e, _⟩ := h.at_ (k := 0) (by simp); cases e
def IntsF (b : Nat) (w : World) (A : Option Addr) (l : List Int) : Prop := Ints w A l ∧ (l ≠ [] → ∀ a, A = some a → b ≤ a.block)
theorem IntsF.nil {b : Nat} {w : World} {A : Option Addr} : IntsF b w A [] := ⟨Ints.nil, fun h => absurd rfl h⟩
theorem IntsF.base {b b' : Nat} {w : World} {A : Option Addr} {l : List Int} (h : IntsF b w A l) (hb : b' ≤ b) : IntsF b' w A l := ⟨h.1, fun hl a ha => Nat.le_trans hb (h.2 hl a ha)⟩
theorem IntsF.grow {b : Nat} {w w' : World} {A : Option Addr} {l : List Int} (h : IntsF b w A l) (hb : Below w.heap.size w w') : IntsF b w' A l := ⟨h.1.grow hb, h.2⟩
theorem IntsF.away {b q : Nat} {w w' : World} {A : Option Addr} {l : List Int} (h : IntsF b w A l) (hg : w.grownBy w' (some q)) (hq : q < b) : IntsF b w' A l := by
 refine ⟨⟨fun k v hk => ?_, h.1.2⟩, h.2⟩
 obtain ⟨ad, e, hb, hc⟩ := h.1.1 k v hk
 have hl : l ≠ [] := by rintro rfl; simp at hk
 have := h.2 hl ad e
 exact ⟨ad, e, Nat.lt_of_lt_of_le hb hg.size, hg.cell hc (by rw [block_add]; intro e'; injection e' with e'; omega)⟩
theorem IntsF.own {b n c : Nat} {w : World} {A : Option Addr} {l : List Int} (h : Own b w (.slice A n c) l) : IntsF b w A l := ⟨h.ints, fun _ a ha => by subst ha; exact (h.1.lt a.block rfl).1⟩
theorem ints_kept {w w' : World} {A : Option Addr} {l : List Int} {r : Option Nat} (h : Ints w A l) (hg : w.grownBy w' r) (hn : l ≠ [] → ∀ a, A = some a → some a.block ≠ r) : Ints w' A l := by
 refine ⟨fun k v hk => ?_, h.2⟩
 obtain ⟨ad, e, hb, hc⟩ := h.1 k v hk
 have hl : l ≠ [] := by rintro rfl; simp at hk
 exact ⟨ad, e, Nat.lt_of_lt_of_le hb hg.size, hg.cell hc (by rw [block_add]; exact hn hl ad e)⟩
theorem sl_CloneI (A : Option Addr) (n c : Nat) (l : List Int) (w : World) (h : Ints w A l) (hn : l.length = n) (h9 : n ≤ 1000000) : Calls Tryd.prog 43 #[.slice A n c] w (RetInts1 w l) := by
 have q22 : ∀ (w : World) (a : Option Addr) (n c n' c' : Nat), (binOp .eql 25 (.slice a n c) (.slice none n' c')).run Tryd.prog w = .ok (.bool a.isNone) w := fun w a n c n' c' => Lib.run_eql_slice_nil w _ _ a n c n' c' Tryd.underlying25
 cases A with
 | none =>
  have hl := ints_none h
  subst hl
  go_enter Tryd.func43, Tryd.ntmps43
  go_wp2_with fail
  go_ret
  exact ⟨_, rfl, Own.nil, Below.refl _ _⟩
 | some ad =>
  have he : Own w.heap.size (w.alloc (.cells #[] 3)) (.slice (some ⟨w.heap.size, 0, none⟩) 0 0) [] := emp1
  have hb := (Below.refl w.heap.size w).alloc (Nat.le_refl _) (.cells #[] 3)
  have hi := h.grow hb
  have hs : w.heap.size ≤ (w.alloc (.cells #[] 3)).heap.size := hb.size
  have HB := Lib.hid hb
  clear hb h
  go_enter Tryd.func43, Tryd.ntmps43
  go_wp2_with (at_builtin; refine app_intsN _ rfl _ _ rfl w.heap.size (m := l) rfl rfl hn he hi (by simp; omega) hs ?_; intro v1 w1 ho1 hb1)
  go_ret
  exact ⟨_, rfl, ho1, HB.out.trans hb1⟩
end Go.Proofs.YtdiflpbioohddaaDoor
end
