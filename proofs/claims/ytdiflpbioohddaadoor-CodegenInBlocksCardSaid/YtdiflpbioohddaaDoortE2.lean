/- What instructions read and write; Uses of package processor. -/
import Derived.Test.YtdiflpbioohddaaDoortE1toI0
set_option linter.unusedVariables false
set_option linter.unusedSimpArgs false
namespace Go.Proofs.YtdiflpbioohddaaDoor
open Go.RowKit
inductive Dsc where
 | v (u : Value)
 | row (l : List Int)
def RowI (b : Nat) (l : List Int) (v : Value) (w : World) : Prop := ∃ A, (∃ c, v = .slice A l.length c) ∧ IntsF b w A l
theorem RowI.grow {b : Nat} {l : List Int} {v : Value} {w w' : World} (h : RowI b l v w) (hb : Below w.heap.size w w') : RowI b l v w' := by
 obtain ⟨A, e, hi⟩ := h
 exact ⟨A, e, hi.grow hb⟩
def dF (b : Nat) (ds : List Dsc) (i : Nat) (v : Value) (w : World) : Prop :=
 match ds[i]? with
 | some (.v u) => v = u
 | some (.row l) => RowI b l v w
 | none => True
theorem dF_keep {b : Nat} {ds : List Dsc} {w w' : World} (h : Below w.heap.size w w') (i : Nat) (v : Value) (hf : dF b ds i v w) : dF b ds i v w' := by
 unfold dF at hf ⊢
 split at hf
 ·exact hf
 ·exact hf.grow h
 ·trivial
theorem rowI_lit {b : Nat} {w : World} {l : List Int} {cs : Array Value} {t : TypeId} {n : Nat} (hc : cs.toList = l.map (Value.int .i64)) (hn : l.length = n) (hl : ∀ x ∈ l, I64 x) (hb : b ≤ w.heap.size) : RowI b l (.slice (some ⟨w.heap.size, 0, none⟩) n n) (w.alloc (.cells cs t)) := by
 have hx : Box (w.alloc (.cells cs t)) w.heap.size cs.toList := Box.new rfl
 refine ⟨_, ⟨n, by rw [hn]⟩, ⟨fun k v hk => ?_, hl⟩, fun _ a ha => by injection ha with ha; subst ha; exact hb⟩
 refine ⟨_, rfl, hx.1, ?_⟩
 rw [add_cellsB, hx.2.1, hc]; exact hk
theorem rowI_litn {b g : Nat} {w : World} {l : List Int} {cs : Array Value} {t : TypeId} {n : Nat} (hg : g = w.heap.size) (hc : cs.toList = l.map (Value.int .i64)) (hn : l.length = n) (hl : ∀ x ∈ l, I64 x) (hb : b ≤ w.heap.size) : RowI b l (.slice (some ⟨g, 0, none⟩) n n) (w.alloc (.cells cs t)) := by
 subst hg; exact rowI_lit hc hn hl hb
def Ins.rd (i : Ins) : List Int :=
 if i.formed then match i.op.toNat with
  | 2 => [i.a, 8] | 3 => [8, 100 + i.a] | 4 => [8, 20 + i.a] | 5 => [8] | 6 => [100 + i.b] | 7 => [i.a] | 8 => [i.b, 20 + i.a] | 9 => [9] | 10 => [i.a] | 11 => [i.b] | _ => []
 else []
def Ins.wt (i : Ins) : List Int :=
 if i.formed then match i.op.toNat with
  | 1 => [8] | 2 => [8] | 3 => [8] | 4 => [8] | 5 => [i.a] | 6 => [i.a] | 7 => [100 + i.b] | 8 => [20 + i.a] | 9 => [i.a] | 10 => [10] | 11 => [i.a] | _ => []
 else []
theorem fitsK_bound {k v : Int} (hk : 0 ≤ k ∧ k ≤ 4) (h : fitsK k v = true) : 0 ≤ v ∧ v < 128 := by
 unfold fitsK at h
 split at h
 ·have := of_decide_eq_true h; omega
 ·split at h
  ·have := of_decide_eq_true h; omega
  ·split at h
   ·omega
   ·have := of_decide_eq_true h; omega
theorem kA4 (k : Nat) : 0 ≤ kA k ∧ kA k ≤ 4 := by unfold kA; split <;> decide
theorem kB4 (k : Nat) : 0 ≤ kB k ∧ kB k ≤ 4 := by unfold kB; split <;> decide
theorem formed_parts {i : Ins} (h : i.formed = true) : (0 ≤ i.op ∧ i.op < 12) ∧ (0 ≤ i.a ∧ i.a < 128) ∧ (0 ≤ i.b ∧ i.b < 128) ∧ (-8388608 ≤ i.imm ∧ i.imm ≤ 8388608) := by
 unfold Ins.formed at h
 rw [Bool.and_eq_true, Bool.and_eq_true, Bool.and_eq_true] at h
 obtain ⟨⟨⟨h1, h2⟩, h3⟩, h4⟩ := h
 refine ⟨of_decide_eq_true h1, fitsK_bound (kA4 _) h2, fitsK_bound (kB4 _) h3, ?_⟩
 have hc : kC i.op.toNat = 5 ∨ kC i.op.toNat = 0 := by unfold kC; split <;> simp
 rcases hc with e | e <;> rw [e] at h4
 ·exact of_decide_eq_true h4
 ·have h5 : i.imm = 0 := of_decide_eq_true h4
  omega
def RetII (w : World) (r s : List Int) (e : Ending) (w' : World) : Prop := ∃ (A B : Option Addr) (c d : Nat), e = .returned (.tuple #[.slice A r.length c, .slice B s.length d]) ∧ IntsF w.heap.size w' A r ∧ IntsF w.heap.size w' B s ∧ Below w.heap.size w w'
theorem retII_mk {w w0 w' : World} {r s : List Int} {x y : Value} {e : Ending} (he : e = .returned (.tuple #[x, y])) (hx : RowI w0.heap.size r x w') (hy : RowI w0.heap.size s y w') (hs : w.heap.size ≤ w0.heap.size) (hb : Below w.heap.size w w') : RetII w r s e w' := by
 obtain ⟨A, ⟨c, rfl⟩, h1⟩ := hx
 obtain ⟨B, ⟨d, rfl⟩, h2⟩ := hy
 exact ⟨A, B, c, d, he, h1.base hs, h2.base hs, hb⟩
theorem rowI_nil {b : Nat} {w : World} : RowI b [] (.slice none 0 0) w := ⟨none, ⟨0, rfl⟩, IntsF.nil⟩
set_option maxRecDepth 100000 in
set_option maxHeartbeats 4000000 in
theorem pr_Uses (i : Ins) (w : World) (hf : FormsAt w) (hi : i.ok) : Calls Tryd.prog 85 #[i.v] w (RetII w i.rd i.wt) := by
 have CF0 : Hid (∀ w1, Below w.heap.size w w1 → Calls Tryd.prog 110 #[i.v] w1 fun e w' => e = .returned (.bool i.formed) ∧ Below w1.heap.size w1 w') := fun w1 hb => pr_formed i w1 (hf.grow hb)
 clear hf
 by_cases hF : i.formed = true
 rotate_left
 ·have hF : i.formed = false := by simpa using hF
  have e1 : i.rd = [] := by unfold Ins.rd; rw [hF]; rfl
  have e2 : i.wt = [] := by unfold Ins.wt; rw [hF]; rfl
  rw [e1, e2]
  rw [hF] at CF0
  obtain ⟨op, a, b, imm⟩ := i
  have CF : Hid (∀ w1, Below w.heap.size w w1 → Calls Tryd.prog 110 #[.agg #[.int .i64 op, .int .i64 a, .int .i64 b, .int .i64 imm]] w1 fun e w' => e = .returned (.bool false) ∧ Below w1.heap.size w1 w') := CF0
  clear hF e1 e2 CF0
  show Calls Tryd.prog 85 #[.agg #[.int .i64 op, .int .i64 a, .int .i64 b, .int .i64 imm]] w _
  go_enter Tryd.func85, Tryd.ntmps85
  go_upto_region 1 with fail
  obtain ⟨bx0, hb0⟩ := entryI w ⟨op, a, b, imm⟩ _ rfl
  change Code.wp _ _ _ _ (w.alloc (.cells (Ins.cells ⟨op, a, b, imm⟩).toArray 109))
  generalize (w.alloc (.cells (Ins.cells ⟨op, a, b, imm⟩).toArray 109)) = W0 at bx0 hb0 ⊢
  obtain ⟨z0, z1, z2, z3⟩ := bx0.c4
  go_upto_region 2 with (go_at_call 110; (with_reducible refine (CF.out _ hb0).mono ?_); rintro e1 w1 ⟨rfl, hb1⟩; have hb := below_then hb0 hb1; obtain ⟨z0, z1, z2, z3⟩ := (Box.keep bx0 hb1).c4)
  go_wp2_with fail
  go_ret2
  exact retII_mk (w0 := w) rfl rowI_nil rowI_nil (Nat.le_refl _) hb
 obtain ⟨⟨o0, o1⟩, ⟨a0, a1⟩, ⟨b0, b1⟩, -⟩ := formed_parts hF
 rw [hF] at CF0
 obtain ⟨op, a, b, imm⟩ := i
 simp only at o0 o1 a0 a1 b0 b1
 have hw1 : IntKind.i64.wrap (100 + a) = 100 + a := IntWalk.i64_in _ (by omega)
 have hw2 : IntKind.i64.wrap (20 + a) = 20 + a := IntWalk.i64_in _ (by omega)
 have hw3 : IntKind.i64.wrap (100 + b) = 100 + b := IntWalk.i64_in _ (by omega)
 have hsz : (w.heap.size : Nat) ≤ w.heap.size := Nat.le_refl _
 obtain rfl | rfl | rfl | rfl | rfl | rfl | rfl | rfl | rfl | rfl | rfl | rfl : op = 0 ∨ op = 1 ∨ op = 2 ∨ op = 3 ∨ op = 4 ∨ op = 5 ∨ op = 6 ∨ op = 7 ∨ op = 8 ∨ op = 9 ∨ op = 10 ∨ op = 11 := by omega
 ·have e1 : Ins.rd ⟨0, a, b, imm⟩ = [] := by unfold Ins.rd; rw [hF]; rfl
  have e2 : Ins.wt ⟨0, a, b, imm⟩ = [] := by unfold Ins.wt; rw [hF]; rfl
  rw [e1, e2]
  have CF : Hid (∀ w1, Below w.heap.size w w1 → Calls Tryd.prog 110 #[.agg #[.int .i64 0, .int .i64 a, .int .i64 b, .int .i64 imm]] w1 fun e w' => e = .returned (.bool true) ∧ Below w1.heap.size w1 w') := CF0
  clear hF e1 e2 CF0
  show Calls Tryd.prog 85 #[.agg #[.int .i64 0, .int .i64 a, .int .i64 b, .int .i64 imm]] w _
  go_enter Tryd.func85, Tryd.ntmps85
  go_upto_region 1 with fail
  obtain ⟨bx0, hb0⟩ := entryI w ⟨0, a, b, imm⟩ _ rfl
  change Code.wp _ _ _ _ (w.alloc (.cells (Ins.cells ⟨0, a, b, imm⟩).toArray 109))
  generalize (w.alloc (.cells (Ins.cells ⟨0, a, b, imm⟩).toArray 109)) = W0 at bx0 hb0 ⊢
  obtain ⟨z0, z1, z2, z3⟩ := bx0.c4
  go_upto_region 3 with (go_at_call 110; (with_reducible refine (CF.out _ hb0).mono ?_); rintro e1 w1 ⟨rfl, hb1⟩; have hb := below_then hb0 hb1; obtain ⟨z0, z1, z2, z3⟩ := (Box.keep bx0 hb1).c4)
  go_wp2_with fail
  go_ret2
  exact retII_mk (w0 := w1) rfl rowI_nil rowI_nil hb.size hb
 ·have e1 : Ins.rd ⟨1, a, b, imm⟩ = [] := by unfold Ins.rd; rw [hF]; rfl
  have e2 : Ins.wt ⟨1, a, b, imm⟩ = [8] := by unfold Ins.wt; rw [hF]; rfl
  rw [e1, e2]
  have CF : Hid (∀ w1, Below w.heap.size w w1 → Calls Tryd.prog 110 #[.agg #[.int .i64 1, .int .i64 a, .int .i64 b, .int .i64 imm]] w1 fun e w' => e = .returned (.bool true) ∧ Below w1.heap.size w1 w') := CF0
  clear hF e1 e2 CF0
  show Calls Tryd.prog 85 #[.agg #[.int .i64 1, .int .i64 a, .int .i64 b, .int .i64 imm]] w _
  go_enter Tryd.func85, Tryd.ntmps85
  go_upto_region 1 with fail
  obtain ⟨bx0, hb0⟩ := entryI w ⟨1, a, b, imm⟩ _ rfl
  change Code.wp _ _ _ _ (w.alloc (.cells (Ins.cells ⟨1, a, b, imm⟩).toArray 109))
  generalize (w.alloc (.cells (Ins.cells ⟨1, a, b, imm⟩).toArray 109)) = W0 at bx0 hb0 ⊢
  obtain ⟨z0, z1, z2, z3⟩ := bx0.c4
  go_upto_region 3 with (go_at_call 110; (with_reducible refine (CF.out _ hb0).mono ?_); rintro e1 w1 ⟨rfl, hb1⟩; have hb := below_then hb0 hb1; obtain ⟨z0, z1, z2, z3⟩ := (Box.keep bx0 hb1).c4)
  go_wp2_with fail
  go_ret2
  exact retII_mk (w0 := w1) rfl rowI_nil (rowI_lit (b := w1.heap.size) (l := [8]) rfl rfl (fun x hx => by rw [List.mem_singleton.1 hx]; unfold I64; omega) (Nat.le_refl _)) hb.size (hb.alloc hb.size _)
 ·have e1 : Ins.rd ⟨2, a, b, imm⟩ = [a, 8] := by unfold Ins.rd; rw [hF]; rfl
  have e2 : Ins.wt ⟨2, a, b, imm⟩ = [8] := by unfold Ins.wt; rw [hF]; rfl
  rw [e1, e2]
  have CF : Hid (∀ w1, Below w.heap.size w w1 → Calls Tryd.prog 110 #[.agg #[.int .i64 2, .int .i64 a, .int .i64 b, .int .i64 imm]] w1 fun e w' => e = .returned (.bool true) ∧ Below w1.heap.size w1 w') := CF0
  clear hF e1 e2 CF0
  show Calls Tryd.prog 85 #[.agg #[.int .i64 2, .int .i64 a, .int .i64 b, .int .i64 imm]] w _
  go_enter Tryd.func85, Tryd.ntmps85
  go_upto_region 1 with fail
  obtain ⟨bx0, hb0⟩ := entryI w ⟨2, a, b, imm⟩ _ rfl
  change Code.wp _ _ _ _ (w.alloc (.cells (Ins.cells ⟨2, a, b, imm⟩).toArray 109))
  generalize (w.alloc (.cells (Ins.cells ⟨2, a, b, imm⟩).toArray 109)) = W0 at bx0 hb0 ⊢
  obtain ⟨z0, z1, z2, z3⟩ := bx0.c4
  go_upto_region 3 with (go_at_call 110; (with_reducible refine (CF.out _ hb0).mono ?_); rintro e1 w1 ⟨rfl, hb1⟩; have hb := below_then hb0 hb1; obtain ⟨z0, z1, z2, z3⟩ := (Box.keep bx0 hb1).c4)
  go_wp2_with fail
  go_ret2
  exact retII_mk (w0 := w1) rfl (RowI.grow (rowI_lit (b := w1.heap.size) (l := [a, 8]) rfl rfl (fun x hx => by simp only [List.mem_cons, List.not_mem_nil, or_false] at hx; unfold I64; rcases hx with rfl | rfl <;> omega) (Nat.le_refl _)) ((Below.refl _ _).alloc (Nat.le_refl _) _)) (rowI_litn (b := w1.heap.size) (g := w1.heap.size + 1) (l := [8]) (by simp) rfl rfl (fun x hx => by rw [List.mem_singleton.1 hx]; unfold I64; omega) (by simp)) hb.size ((hb.alloc hb.size _).alloc (by have := hb.size; simp; omega) _)
 ·have e1 : Ins.rd ⟨3, a, b, imm⟩ = [8, 100 + a] := by unfold Ins.rd; rw [hF]; rfl
  have e2 : Ins.wt ⟨3, a, b, imm⟩ = [8] := by unfold Ins.wt; rw [hF]; rfl
  rw [e1, e2]
  have CF : Hid (∀ w1, Below w.heap.size w w1 → Calls Tryd.prog 110 #[.agg #[.int .i64 3, .int .i64 a, .int .i64 b, .int .i64 imm]] w1 fun e w' => e = .returned (.bool true) ∧ Below w1.heap.size w1 w') := CF0
  clear hF e1 e2 CF0
  show Calls Tryd.prog 85 #[.agg #[.int .i64 3, .int .i64 a, .int .i64 b, .int .i64 imm]] w _
  go_enter Tryd.func85, Tryd.ntmps85
  go_upto_region 1 with fail
  obtain ⟨bx0, hb0⟩ := entryI w ⟨3, a, b, imm⟩ _ rfl
  change Code.wp _ _ _ _ (w.alloc (.cells (Ins.cells ⟨3, a, b, imm⟩).toArray 109))
  generalize (w.alloc (.cells (Ins.cells ⟨3, a, b, imm⟩).toArray 109)) = W0 at bx0 hb0 ⊢
  obtain ⟨z0, z1, z2, z3⟩ := bx0.c4
  go_upto_region 3 with (go_at_call 110; (with_reducible refine (CF.out _ hb0).mono ?_); rintro e1 w1 ⟨rfl, hb1⟩; have hb := below_then hb0 hb1; obtain ⟨z0, z1, z2, z3⟩ := (Box.keep bx0 hb1).c4)
  go_wp2_with fail
  go_ret2
  exact retII_mk (w0 := w1) rfl (RowI.grow (rowI_lit (b := w1.heap.size) (l := [8, 100 + a]) rfl rfl (fun x hx => by simp only [List.mem_cons, List.not_mem_nil, or_false] at hx; unfold I64; rcases hx with rfl | rfl <;> omega) (Nat.le_refl _)) ((Below.refl _ _).alloc (Nat.le_refl _) _)) (rowI_litn (b := w1.heap.size) (g := w1.heap.size + 1) (l := [8]) (by simp) rfl rfl (fun x hx => by rw [List.mem_singleton.1 hx]; unfold I64; omega) (by simp)) hb.size ((hb.alloc hb.size _).alloc (by have := hb.size; simp; omega) _)
 ·have e1 : Ins.rd ⟨4, a, b, imm⟩ = [8, 20 + a] := by unfold Ins.rd; rw [hF]; rfl
  have e2 : Ins.wt ⟨4, a, b, imm⟩ = [8] := by unfold Ins.wt; rw [hF]; rfl
  rw [e1, e2]
  have CF : Hid (∀ w1, Below w.heap.size w w1 → Calls Tryd.prog 110 #[.agg #[.int .i64 4, .int .i64 a, .int .i64 b, .int .i64 imm]] w1 fun e w' => e = .returned (.bool true) ∧ Below w1.heap.size w1 w') := CF0
  clear hF e1 e2 CF0
  show Calls Tryd.prog 85 #[.agg #[.int .i64 4, .int .i64 a, .int .i64 b, .int .i64 imm]] w _
  go_enter Tryd.func85, Tryd.ntmps85
  go_upto_region 1 with fail
  obtain ⟨bx0, hb0⟩ := entryI w ⟨4, a, b, imm⟩ _ rfl
  change Code.wp _ _ _ _ (w.alloc (.cells (Ins.cells ⟨4, a, b, imm⟩).toArray 109))
  generalize (w.alloc (.cells (Ins.cells ⟨4, a, b, imm⟩).toArray 109)) = W0 at bx0 hb0 ⊢
  obtain ⟨z0, z1, z2, z3⟩ := bx0.c4
  go_upto_region 3 with (go_at_call 110; (with_reducible refine (CF.out _ hb0).mono ?_); rintro e1 w1 ⟨rfl, hb1⟩; have hb := below_then hb0 hb1; obtain ⟨z0, z1, z2, z3⟩ := (Box.keep bx0 hb1).c4)
  go_wp2_with fail
  go_ret2
  exact retII_mk (w0 := w1) rfl (RowI.grow (rowI_lit (b := w1.heap.size) (l := [8, 20 + a]) rfl rfl (fun x hx => by simp only [List.mem_cons, List.not_mem_nil, or_false] at hx; unfold I64; rcases hx with rfl | rfl <;> omega) (Nat.le_refl _)) ((Below.refl _ _).alloc (Nat.le_refl _) _)) (rowI_litn (b := w1.heap.size) (g := w1.heap.size + 1) (l := [8]) (by simp) rfl rfl (fun x hx => by rw [List.mem_singleton.1 hx]; unfold I64; omega) (by simp)) hb.size ((hb.alloc hb.size _).alloc (by have := hb.size; simp; omega) _)
 ·have e1 : Ins.rd ⟨5, a, b, imm⟩ = [8] := by unfold Ins.rd; rw [hF]; rfl
  have e2 : Ins.wt ⟨5, a, b, imm⟩ = [a] := by unfold Ins.wt; rw [hF]; rfl
  rw [e1, e2]
  have CF : Hid (∀ w1, Below w.heap.size w w1 → Calls Tryd.prog 110 #[.agg #[.int .i64 5, .int .i64 a, .int .i64 b, .int .i64 imm]] w1 fun e w' => e = .returned (.bool true) ∧ Below w1.heap.size w1 w') := CF0
  clear hF e1 e2 CF0
  show Calls Tryd.prog 85 #[.agg #[.int .i64 5, .int .i64 a, .int .i64 b, .int .i64 imm]] w _
  go_enter Tryd.func85, Tryd.ntmps85
  go_upto_region 1 with fail
  obtain ⟨bx0, hb0⟩ := entryI w ⟨5, a, b, imm⟩ _ rfl
  change Code.wp _ _ _ _ (w.alloc (.cells (Ins.cells ⟨5, a, b, imm⟩).toArray 109))
  generalize (w.alloc (.cells (Ins.cells ⟨5, a, b, imm⟩).toArray 109)) = W0 at bx0 hb0 ⊢
  obtain ⟨z0, z1, z2, z3⟩ := bx0.c4
  go_upto_region 13 with (go_at_call 110; (with_reducible refine (CF.out _ hb0).mono ?_); rintro e1 w1 ⟨rfl, hb1⟩; have hb := below_then hb0 hb1; obtain ⟨z0, z1, z2, z3⟩ := (Box.keep bx0 hb1).c4)
  have HB := Lib.hid hb
  have BX := Lib.hid (Box.keep bx0 hb1)
  clear z0 z1 z2 z3 hb hb0 hb1 bx0 CF
  refine wp_region_grow 6 (fun w2 => Below w1.heap.size w1 w2) (fun a b => Below a.heap.size a b) (dF w1.heap.size [.row [8], .v (.pointer (some ⟨w.heap.size, 1, none⟩)), .v (.int .i64 (a)), .row [a], .row [8], .row [a]]) (by kernel_rfl) (by kernel_rfl) (Below.drew (Below.refl _ _)) (fun a b h1 h2 => ⟨below_then h1 h2, fun i _ v => dF_keep h2 i v⟩) ?_ ?_
  ·refine ⟨?_, ?_, ?_, ?_, ?_, ?_, trivial⟩
   all_goals
    intro vs w2 hp hF
    have HP := Lib.hid hp
    obtain ⟨z0, z1, z2, z3⟩ := (Box.keep BX.out hp).c4
    clear hp
    simp [depsB, Region.binds, dF] at hF
    simp [stL, depsB, Region.binds, Act.put, hF]
   ·go_wp2_with fail
    exact ⟨rowI_lit rfl rfl (fun x hx => by rw [List.mem_singleton.1 hx]; unfold I64; omega) HP.out.size, (Below.refl _ _).alloc (Nat.le_refl _) _⟩
   ·go_wp2_with fail
    exact ⟨rfl, Below.refl _ _⟩
   ·go_wp2_with fail
    exact ⟨rfl, Below.refl _ _⟩
   ·go_wp2_with fail
    exact ⟨rowI_lit rfl rfl (fun x hx => by rw [List.mem_singleton.1 hx]; unfold I64; omega) HP.out.size, (Below.refl _ _).alloc (Nat.le_refl _) _⟩
   ·go_wp2_with fail
    first | exact ⟨hF, Below.refl _ _⟩ | exact ⟨hF.1, Below.refl _ _⟩
   ·go_wp2_with fail
    first | exact ⟨hF, Below.refl _ _⟩ | exact ⟨hF.1, Below.refl _ _⟩
  intro vs w2 hp hF
  have er : RowI w1.heap.size [8] (vs 4) w2 := hF 4 (by decide)
  have es : RowI w1.heap.size [a] (vs 5) w2 := hF 5 (by decide)
  simp [stL, Act.put]
  generalize vs 0 = x0
  generalize vs 1 = x1
  generalize vs 2 = x2
  generalize vs 3 = x3
  generalize vs 4 = x4 at er ⊢
  generalize vs 5 = x5 at es ⊢
  go_wp2_with fail
  go_ret2
  exact retII_mk rfl er es HB.out.size (below_then HB.out hp)
 ·have e1 : Ins.rd ⟨6, a, b, imm⟩ = [100 + b] := by unfold Ins.rd; rw [hF]; rfl
  have e2 : Ins.wt ⟨6, a, b, imm⟩ = [a] := by unfold Ins.wt; rw [hF]; rfl
  rw [e1, e2]
  have CF : Hid (∀ w1, Below w.heap.size w w1 → Calls Tryd.prog 110 #[.agg #[.int .i64 6, .int .i64 a, .int .i64 b, .int .i64 imm]] w1 fun e w' => e = .returned (.bool true) ∧ Below w1.heap.size w1 w') := CF0
  clear hF e1 e2 CF0
  show Calls Tryd.prog 85 #[.agg #[.int .i64 6, .int .i64 a, .int .i64 b, .int .i64 imm]] w _
  go_enter Tryd.func85, Tryd.ntmps85
  go_upto_region 1 with fail
  obtain ⟨bx0, hb0⟩ := entryI w ⟨6, a, b, imm⟩ _ rfl
  change Code.wp _ _ _ _ (w.alloc (.cells (Ins.cells ⟨6, a, b, imm⟩).toArray 109))
  generalize (w.alloc (.cells (Ins.cells ⟨6, a, b, imm⟩).toArray 109)) = W0 at bx0 hb0 ⊢
  obtain ⟨z0, z1, z2, z3⟩ := bx0.c4
  go_upto_region 15 with (go_at_call 110; (with_reducible refine (CF.out _ hb0).mono ?_); rintro e1 w1 ⟨rfl, hb1⟩; have hb := below_then hb0 hb1; obtain ⟨z0, z1, z2, z3⟩ := (Box.keep bx0 hb1).c4)
  have HB := Lib.hid hb
  have BX := Lib.hid (Box.keep bx0 hb1)
  clear z0 z1 z2 z3 hb hb0 hb1 bx0 CF
  refine wp_region_grow 9 (fun w2 => Below w1.heap.size w1 w2) (fun a b => Below a.heap.size a b) (dF w1.heap.size [.v (.pointer (some ⟨w.heap.size, 2, none⟩)), .v (.int .i64 (b)), .v (.int .i64 (100 + b)), .row [100 + b], .v (.pointer (some ⟨w.heap.size, 1, none⟩)), .v (.int .i64 (a)), .row [a], .row [100 + b], .row [a]]) (by kernel_rfl) (by kernel_rfl) (Below.drew (Below.refl _ _)) (fun a b h1 h2 => ⟨below_then h1 h2, fun i _ v => dF_keep h2 i v⟩) ?_ ?_
  ·refine ⟨?_, ?_, ?_, ?_, ?_, ?_, ?_, ?_, ?_, trivial⟩
   all_goals
    intro vs w2 hp hF
    have HP := Lib.hid hp
    obtain ⟨z0, z1, z2, z3⟩ := (Box.keep BX.out hp).c4
    clear hp
    simp [depsB, Region.binds, dF] at hF
    simp [stL, depsB, Region.binds, Act.put, hF]
   ·go_wp2_with fail
    exact ⟨rfl, Below.refl _ _⟩
   ·go_wp2_with fail
    exact ⟨rfl, Below.refl _ _⟩
   ·go_wp2_with fail
    exact ⟨rfl, Below.refl _ _⟩
   ·go_wp2_with fail
    exact ⟨rowI_lit rfl rfl (fun x hx => by rw [List.mem_singleton.1 hx]; unfold I64; omega) HP.out.size, (Below.refl _ _).alloc (Nat.le_refl _) _⟩
   ·go_wp2_with fail
    exact ⟨rfl, Below.refl _ _⟩
   ·go_wp2_with fail
    exact ⟨rfl, Below.refl _ _⟩
   ·go_wp2_with fail
    exact ⟨rowI_lit rfl rfl (fun x hx => by rw [List.mem_singleton.1 hx]; unfold I64; omega) HP.out.size, (Below.refl _ _).alloc (Nat.le_refl _) _⟩
   ·go_wp2_with fail
    first | exact ⟨hF, Below.refl _ _⟩ | exact ⟨hF.1, Below.refl _ _⟩
   ·go_wp2_with fail
    first | exact ⟨hF, Below.refl _ _⟩ | exact ⟨hF.1, Below.refl _ _⟩
  intro vs w2 hp hF
  have er : RowI w1.heap.size [100 + b] (vs 7) w2 := hF 7 (by decide)
  have es : RowI w1.heap.size [a] (vs 8) w2 := hF 8 (by decide)
  simp [stL, Act.put]
  generalize vs 0 = x0
  generalize vs 1 = x1
  generalize vs 2 = x2
  generalize vs 3 = x3
  generalize vs 4 = x4
  generalize vs 5 = x5
  generalize vs 6 = x6
  generalize vs 7 = x7 at er ⊢
  generalize vs 8 = x8 at es ⊢
  go_wp2_with fail
  go_ret2
  exact retII_mk rfl er es HB.out.size (below_then HB.out hp)
 ·have e1 : Ins.rd ⟨7, a, b, imm⟩ = [a] := by unfold Ins.rd; rw [hF]; rfl
  have e2 : Ins.wt ⟨7, a, b, imm⟩ = [100 + b] := by unfold Ins.wt; rw [hF]; rfl
  rw [e1, e2]
  have CF : Hid (∀ w1, Below w.heap.size w w1 → Calls Tryd.prog 110 #[.agg #[.int .i64 7, .int .i64 a, .int .i64 b, .int .i64 imm]] w1 fun e w' => e = .returned (.bool true) ∧ Below w1.heap.size w1 w') := CF0
  clear hF e1 e2 CF0
  show Calls Tryd.prog 85 #[.agg #[.int .i64 7, .int .i64 a, .int .i64 b, .int .i64 imm]] w _
  go_enter Tryd.func85, Tryd.ntmps85
  go_upto_region 1 with fail
  obtain ⟨bx0, hb0⟩ := entryI w ⟨7, a, b, imm⟩ _ rfl
  change Code.wp _ _ _ _ (w.alloc (.cells (Ins.cells ⟨7, a, b, imm⟩).toArray 109))
  generalize (w.alloc (.cells (Ins.cells ⟨7, a, b, imm⟩).toArray 109)) = W0 at bx0 hb0 ⊢
  obtain ⟨z0, z1, z2, z3⟩ := bx0.c4
  go_upto_region 17 with (go_at_call 110; (with_reducible refine (CF.out _ hb0).mono ?_); rintro e1 w1 ⟨rfl, hb1⟩; have hb := below_then hb0 hb1; obtain ⟨z0, z1, z2, z3⟩ := (Box.keep bx0 hb1).c4)
  have HB := Lib.hid hb
  have BX := Lib.hid (Box.keep bx0 hb1)
  clear z0 z1 z2 z3 hb hb0 hb1 bx0 CF
  refine wp_region_grow 9 (fun w2 => Below w1.heap.size w1 w2) (fun a b => Below a.heap.size a b) (dF w1.heap.size [.v (.pointer (some ⟨w.heap.size, 1, none⟩)), .v (.int .i64 (a)), .row [a], .v (.pointer (some ⟨w.heap.size, 2, none⟩)), .v (.int .i64 (b)), .v (.int .i64 (100 + b)), .row [100 + b], .row [a], .row [100 + b]]) (by kernel_rfl) (by kernel_rfl) (Below.drew (Below.refl _ _)) (fun a b h1 h2 => ⟨below_then h1 h2, fun i _ v => dF_keep h2 i v⟩) ?_ ?_
  ·refine ⟨?_, ?_, ?_, ?_, ?_, ?_, ?_, ?_, ?_, trivial⟩
   all_goals
    intro vs w2 hp hF
    have HP := Lib.hid hp
    obtain ⟨z0, z1, z2, z3⟩ := (Box.keep BX.out hp).c4
    clear hp
    simp [depsB, Region.binds, dF] at hF
    simp [stL, depsB, Region.binds, Act.put, hF]
   ·go_wp2_with fail
    exact ⟨rfl, Below.refl _ _⟩
   ·go_wp2_with fail
    exact ⟨rfl, Below.refl _ _⟩
   ·go_wp2_with fail
    exact ⟨rowI_lit rfl rfl (fun x hx => by rw [List.mem_singleton.1 hx]; unfold I64; omega) HP.out.size, (Below.refl _ _).alloc (Nat.le_refl _) _⟩
   ·go_wp2_with fail
    exact ⟨rfl, Below.refl _ _⟩
   ·go_wp2_with fail
    exact ⟨rfl, Below.refl _ _⟩
   ·go_wp2_with fail
    exact ⟨rfl, Below.refl _ _⟩
   ·go_wp2_with fail
    exact ⟨rowI_lit rfl rfl (fun x hx => by rw [List.mem_singleton.1 hx]; unfold I64; omega) HP.out.size, (Below.refl _ _).alloc (Nat.le_refl _) _⟩
   ·go_wp2_with fail
    first | exact ⟨hF, Below.refl _ _⟩ | exact ⟨hF.1, Below.refl _ _⟩
   ·go_wp2_with fail
    first | exact ⟨hF, Below.refl _ _⟩ | exact ⟨hF.1, Below.refl _ _⟩
  intro vs w2 hp hF
  have er : RowI w1.heap.size [a] (vs 7) w2 := hF 7 (by decide)
  have es : RowI w1.heap.size [100 + b] (vs 8) w2 := hF 8 (by decide)
  simp [stL, Act.put]
  generalize vs 0 = x0
  generalize vs 1 = x1
  generalize vs 2 = x2
  generalize vs 3 = x3
  generalize vs 4 = x4
  generalize vs 5 = x5
  generalize vs 6 = x6
  generalize vs 7 = x7 at er ⊢
  generalize vs 8 = x8 at es ⊢
  go_wp2_with fail
  go_ret2
  exact retII_mk rfl er es HB.out.size (below_then HB.out hp)
 ·have e1 : Ins.rd ⟨8, a, b, imm⟩ = [b, 20 + a] := by unfold Ins.rd; rw [hF]; rfl
  have e2 : Ins.wt ⟨8, a, b, imm⟩ = [20 + a] := by unfold Ins.wt; rw [hF]; rfl
  rw [e1, e2]
  have CF : Hid (∀ w1, Below w.heap.size w w1 → Calls Tryd.prog 110 #[.agg #[.int .i64 8, .int .i64 a, .int .i64 b, .int .i64 imm]] w1 fun e w' => e = .returned (.bool true) ∧ Below w1.heap.size w1 w') := CF0
  clear hF e1 e2 CF0
  show Calls Tryd.prog 85 #[.agg #[.int .i64 8, .int .i64 a, .int .i64 b, .int .i64 imm]] w _
  go_enter Tryd.func85, Tryd.ntmps85
  go_upto_region 1 with fail
  obtain ⟨bx0, hb0⟩ := entryI w ⟨8, a, b, imm⟩ _ rfl
  change Code.wp _ _ _ _ (w.alloc (.cells (Ins.cells ⟨8, a, b, imm⟩).toArray 109))
  generalize (w.alloc (.cells (Ins.cells ⟨8, a, b, imm⟩).toArray 109)) = W0 at bx0 hb0 ⊢
  obtain ⟨z0, z1, z2, z3⟩ := bx0.c4
  go_upto_region 19 with (go_at_call 110; (with_reducible refine (CF.out _ hb0).mono ?_); rintro e1 w1 ⟨rfl, hb1⟩; have hb := below_then hb0 hb1; obtain ⟨z0, z1, z2, z3⟩ := (Box.keep bx0 hb1).c4)
  have HB := Lib.hid hb
  have BX := Lib.hid (Box.keep bx0 hb1)
  clear z0 z1 z2 z3 hb hb0 hb1 bx0 CF
  refine wp_region_grow 12 (fun w2 => Below w1.heap.size w1 w2) (fun a b => Below a.heap.size a b) (dF w1.heap.size [.v (.pointer (some ⟨w.heap.size, 2, none⟩)), .v (.int .i64 (b)), .v (.pointer (some ⟨w.heap.size, 1, none⟩)), .v (.int .i64 (a)), .v (.int .i64 (20 + a)), .row [b, 20 + a], .v (.pointer (some ⟨w.heap.size, 1, none⟩)), .v (.int .i64 (a)), .v (.int .i64 (20 + a)), .row [20 + a], .row [b, 20 + a], .row [20 + a]]) (by kernel_rfl) (by kernel_rfl) (Below.drew (Below.refl _ _)) (fun a b h1 h2 => ⟨below_then h1 h2, fun i _ v => dF_keep h2 i v⟩) ?_ ?_
  ·refine ⟨?_, ?_, ?_, ?_, ?_, ?_, ?_, ?_, ?_, ?_, ?_, ?_, trivial⟩
   all_goals
    intro vs w2 hp hF
    have HP := Lib.hid hp
    obtain ⟨z0, z1, z2, z3⟩ := (Box.keep BX.out hp).c4
    clear hp
    simp [depsB, Region.binds, dF] at hF
    simp [stL, depsB, Region.binds, Act.put, hF]
   ·go_wp2_with fail
    exact ⟨rfl, Below.refl _ _⟩
   ·go_wp2_with fail
    exact ⟨rfl, Below.refl _ _⟩
   ·go_wp2_with fail
    exact ⟨rfl, Below.refl _ _⟩
   ·go_wp2_with fail
    exact ⟨rfl, Below.refl _ _⟩
   ·go_wp2_with fail
    exact ⟨rfl, Below.refl _ _⟩
   ·go_wp2_with fail
    exact ⟨rowI_lit rfl rfl (fun x hx => by simp only [List.mem_cons, List.not_mem_nil, or_false] at hx; unfold I64; rcases hx with rfl | rfl <;> omega) HP.out.size, (Below.refl _ _).alloc (Nat.le_refl _) _⟩
   ·go_wp2_with fail
    exact ⟨rfl, Below.refl _ _⟩
   ·go_wp2_with fail
    exact ⟨rfl, Below.refl _ _⟩
   ·go_wp2_with fail
    exact ⟨rfl, Below.refl _ _⟩
   ·go_wp2_with fail
    exact ⟨rowI_lit rfl rfl (fun x hx => by rw [List.mem_singleton.1 hx]; unfold I64; omega) HP.out.size, (Below.refl _ _).alloc (Nat.le_refl _) _⟩
   ·go_wp2_with fail
    first | exact ⟨hF, Below.refl _ _⟩ | exact ⟨hF.1, Below.refl _ _⟩
   ·go_wp2_with fail
    first | exact ⟨hF, Below.refl _ _⟩ | exact ⟨hF.1, Below.refl _ _⟩
  intro vs w2 hp hF
  have er : RowI w1.heap.size [b, 20 + a] (vs 10) w2 := hF 10 (by decide)
  have es : RowI w1.heap.size [20 + a] (vs 11) w2 := hF 11 (by decide)
  simp [stL, Act.put]
  generalize vs 0 = x0
  generalize vs 1 = x1
  generalize vs 2 = x2
  generalize vs 3 = x3
  generalize vs 4 = x4
  generalize vs 5 = x5
  generalize vs 6 = x6
  generalize vs 7 = x7
  generalize vs 8 = x8
  generalize vs 9 = x9
  generalize vs 10 = x10 at er ⊢
  generalize vs 11 = x11 at es ⊢
  go_wp2_with fail
  go_ret2
  exact retII_mk rfl er es HB.out.size (below_then HB.out hp)
 ·have e1 : Ins.rd ⟨9, a, b, imm⟩ = [9] := by unfold Ins.rd; rw [hF]; rfl
  have e2 : Ins.wt ⟨9, a, b, imm⟩ = [a] := by unfold Ins.wt; rw [hF]; rfl
  rw [e1, e2]
  have CF : Hid (∀ w1, Below w.heap.size w w1 → Calls Tryd.prog 110 #[.agg #[.int .i64 9, .int .i64 a, .int .i64 b, .int .i64 imm]] w1 fun e w' => e = .returned (.bool true) ∧ Below w1.heap.size w1 w') := CF0
  clear hF e1 e2 CF0
  show Calls Tryd.prog 85 #[.agg #[.int .i64 9, .int .i64 a, .int .i64 b, .int .i64 imm]] w _
  go_enter Tryd.func85, Tryd.ntmps85
  go_upto_region 1 with fail
  obtain ⟨bx0, hb0⟩ := entryI w ⟨9, a, b, imm⟩ _ rfl
  change Code.wp _ _ _ _ (w.alloc (.cells (Ins.cells ⟨9, a, b, imm⟩).toArray 109))
  generalize (w.alloc (.cells (Ins.cells ⟨9, a, b, imm⟩).toArray 109)) = W0 at bx0 hb0 ⊢
  obtain ⟨z0, z1, z2, z3⟩ := bx0.c4
  go_upto_region 21 with (go_at_call 110; (with_reducible refine (CF.out _ hb0).mono ?_); rintro e1 w1 ⟨rfl, hb1⟩; have hb := below_then hb0 hb1; obtain ⟨z0, z1, z2, z3⟩ := (Box.keep bx0 hb1).c4)
  have HB := Lib.hid hb
  have BX := Lib.hid (Box.keep bx0 hb1)
  clear z0 z1 z2 z3 hb hb0 hb1 bx0 CF
  refine wp_region_grow 6 (fun w2 => Below w1.heap.size w1 w2) (fun a b => Below a.heap.size a b) (dF w1.heap.size [.row [9], .v (.pointer (some ⟨w.heap.size, 1, none⟩)), .v (.int .i64 (a)), .row [a], .row [9], .row [a]]) (by kernel_rfl) (by kernel_rfl) (Below.drew (Below.refl _ _)) (fun a b h1 h2 => ⟨below_then h1 h2, fun i _ v => dF_keep h2 i v⟩) ?_ ?_
  ·refine ⟨?_, ?_, ?_, ?_, ?_, ?_, trivial⟩
   all_goals
    intro vs w2 hp hF
    have HP := Lib.hid hp
    obtain ⟨z0, z1, z2, z3⟩ := (Box.keep BX.out hp).c4
    clear hp
    simp [depsB, Region.binds, dF] at hF
    simp [stL, depsB, Region.binds, Act.put, hF]
   ·go_wp2_with fail
    exact ⟨rowI_lit rfl rfl (fun x hx => by rw [List.mem_singleton.1 hx]; unfold I64; omega) HP.out.size, (Below.refl _ _).alloc (Nat.le_refl _) _⟩
   ·go_wp2_with fail
    exact ⟨rfl, Below.refl _ _⟩
   ·go_wp2_with fail
    exact ⟨rfl, Below.refl _ _⟩
   ·go_wp2_with fail
    exact ⟨rowI_lit rfl rfl (fun x hx => by rw [List.mem_singleton.1 hx]; unfold I64; omega) HP.out.size, (Below.refl _ _).alloc (Nat.le_refl _) _⟩
   ·go_wp2_with fail
    first | exact ⟨hF, Below.refl _ _⟩ | exact ⟨hF.1, Below.refl _ _⟩
   ·go_wp2_with fail
    first | exact ⟨hF, Below.refl _ _⟩ | exact ⟨hF.1, Below.refl _ _⟩
  intro vs w2 hp hF
  have er : RowI w1.heap.size [9] (vs 4) w2 := hF 4 (by decide)
  have es : RowI w1.heap.size [a] (vs 5) w2 := hF 5 (by decide)
  simp [stL, Act.put]
  generalize vs 0 = x0
  generalize vs 1 = x1
  generalize vs 2 = x2
  generalize vs 3 = x3
  generalize vs 4 = x4 at er ⊢
  generalize vs 5 = x5 at es ⊢
  go_wp2_with fail
  go_ret2
  exact retII_mk rfl er es HB.out.size (below_then HB.out hp)
 ·have e1 : Ins.rd ⟨10, a, b, imm⟩ = [a] := by unfold Ins.rd; rw [hF]; rfl
  have e2 : Ins.wt ⟨10, a, b, imm⟩ = [10] := by unfold Ins.wt; rw [hF]; rfl
  rw [e1, e2]
  have CF : Hid (∀ w1, Below w.heap.size w w1 → Calls Tryd.prog 110 #[.agg #[.int .i64 10, .int .i64 a, .int .i64 b, .int .i64 imm]] w1 fun e w' => e = .returned (.bool true) ∧ Below w1.heap.size w1 w') := CF0
  clear hF e1 e2 CF0
  show Calls Tryd.prog 85 #[.agg #[.int .i64 10, .int .i64 a, .int .i64 b, .int .i64 imm]] w _
  go_enter Tryd.func85, Tryd.ntmps85
  go_upto_region 1 with fail
  obtain ⟨bx0, hb0⟩ := entryI w ⟨10, a, b, imm⟩ _ rfl
  change Code.wp _ _ _ _ (w.alloc (.cells (Ins.cells ⟨10, a, b, imm⟩).toArray 109))
  generalize (w.alloc (.cells (Ins.cells ⟨10, a, b, imm⟩).toArray 109)) = W0 at bx0 hb0 ⊢
  obtain ⟨z0, z1, z2, z3⟩ := bx0.c4
  go_upto_region 3 with (go_at_call 110; (with_reducible refine (CF.out _ hb0).mono ?_); rintro e1 w1 ⟨rfl, hb1⟩; have hb := below_then hb0 hb1; obtain ⟨z0, z1, z2, z3⟩ := (Box.keep bx0 hb1).c4)
  go_wp2_with fail
  go_ret2
  exact retII_mk (w0 := w1) rfl (RowI.grow (rowI_lit (b := w1.heap.size) (l := [a]) rfl rfl (fun x hx => by rw [List.mem_singleton.1 hx]; unfold I64; omega) (Nat.le_refl _)) ((Below.refl _ _).alloc (Nat.le_refl _) _)) (rowI_litn (b := w1.heap.size) (g := w1.heap.size + 1) (l := [10]) (by simp) rfl rfl (fun x hx => by rw [List.mem_singleton.1 hx]; unfold I64; omega) (by simp)) hb.size ((hb.alloc hb.size _).alloc (by have := hb.size; simp; omega) _)
 ·have e1 : Ins.rd ⟨11, a, b, imm⟩ = [b] := by unfold Ins.rd; rw [hF]; rfl
  have e2 : Ins.wt ⟨11, a, b, imm⟩ = [a] := by unfold Ins.wt; rw [hF]; rfl
  rw [e1, e2]
  have CF : Hid (∀ w1, Below w.heap.size w w1 → Calls Tryd.prog 110 #[.agg #[.int .i64 11, .int .i64 a, .int .i64 b, .int .i64 imm]] w1 fun e w' => e = .returned (.bool true) ∧ Below w1.heap.size w1 w') := CF0
  clear hF e1 e2 CF0
  show Calls Tryd.prog 85 #[.agg #[.int .i64 11, .int .i64 a, .int .i64 b, .int .i64 imm]] w _
  go_enter Tryd.func85, Tryd.ntmps85
  go_upto_region 1 with fail
  obtain ⟨bx0, hb0⟩ := entryI w ⟨11, a, b, imm⟩ _ rfl
  change Code.wp _ _ _ _ (w.alloc (.cells (Ins.cells ⟨11, a, b, imm⟩).toArray 109))
  generalize (w.alloc (.cells (Ins.cells ⟨11, a, b, imm⟩).toArray 109)) = W0 at bx0 hb0 ⊢
  obtain ⟨z0, z1, z2, z3⟩ := bx0.c4
  go_upto_region 25 with (go_at_call 110; (with_reducible refine (CF.out _ hb0).mono ?_); rintro e1 w1 ⟨rfl, hb1⟩; have hb := below_then hb0 hb1; obtain ⟨z0, z1, z2, z3⟩ := (Box.keep bx0 hb1).c4)
  have HB := Lib.hid hb
  have BX := Lib.hid (Box.keep bx0 hb1)
  clear z0 z1 z2 z3 hb hb0 hb1 bx0 CF
  refine wp_region_grow 8 (fun w2 => Below w1.heap.size w1 w2) (fun a b => Below a.heap.size a b) (dF w1.heap.size [.v (.pointer (some ⟨w.heap.size, 2, none⟩)), .v (.int .i64 (b)), .row [b], .v (.pointer (some ⟨w.heap.size, 1, none⟩)), .v (.int .i64 (a)), .row [a], .row [b], .row [a]]) (by kernel_rfl) (by kernel_rfl) (Below.drew (Below.refl _ _)) (fun a b h1 h2 => ⟨below_then h1 h2, fun i _ v => dF_keep h2 i v⟩) ?_ ?_
  ·refine ⟨?_, ?_, ?_, ?_, ?_, ?_, ?_, ?_, trivial⟩
   all_goals
    intro vs w2 hp hF
    have HP := Lib.hid hp
    obtain ⟨z0, z1, z2, z3⟩ := (Box.keep BX.out hp).c4
    clear hp
    simp [depsB, Region.binds, dF] at hF
    simp [stL, depsB, Region.binds, Act.put, hF]
   ·go_wp2_with fail
    exact ⟨rfl, Below.refl _ _⟩
   ·go_wp2_with fail
    exact ⟨rfl, Below.refl _ _⟩
   ·go_wp2_with fail
    exact ⟨rowI_lit rfl rfl (fun x hx => by rw [List.mem_singleton.1 hx]; unfold I64; omega) HP.out.size, (Below.refl _ _).alloc (Nat.le_refl _) _⟩
   ·go_wp2_with fail
    exact ⟨rfl, Below.refl _ _⟩
   ·go_wp2_with fail
    exact ⟨rfl, Below.refl _ _⟩
   ·go_wp2_with fail
    exact ⟨rowI_lit rfl rfl (fun x hx => by rw [List.mem_singleton.1 hx]; unfold I64; omega) HP.out.size, (Below.refl _ _).alloc (Nat.le_refl _) _⟩
   ·go_wp2_with fail
    first | exact ⟨hF, Below.refl _ _⟩ | exact ⟨hF.1, Below.refl _ _⟩
   ·go_wp2_with fail
    first | exact ⟨hF, Below.refl _ _⟩ | exact ⟨hF.1, Below.refl _ _⟩
  intro vs w2 hp hF
  have er : RowI w1.heap.size [b] (vs 6) w2 := hF 6 (by decide)
  have es : RowI w1.heap.size [a] (vs 7) w2 := hF 7 (by decide)
  simp [stL, Act.put]
  generalize vs 0 = x0
  generalize vs 1 = x1
  generalize vs 2 = x2
  generalize vs 3 = x3
  generalize vs 4 = x4
  generalize vs 5 = x5
  generalize vs 6 = x6 at er ⊢
  generalize vs 7 = x7 at es ⊢
  go_wp2_with fail
  go_ret2
  exact retII_mk rfl er es HB.out.size (below_then HB.out hp)
end Go.Proofs.YtdiflpbioohddaaDoor
