/- Several texts in one: Pl W Fx Fz S Sm La A. -/
import Derived.WalkKit
import Derived.Laws.BitsAllLaws
import Derived.Laws.BitsLemmas
import Derived.BigQuiet
import Derived.BigGuardPart
import Derived.Deep.QuietTactic
import Derived.Lib.Hide
import Derived.Test.YtdiflpbioohddaaDoorRows
import Derived.Laws.OwnMore
import Derived.OwnWalk
set_option linter.unusedVariables false
set_option linter.unusedSimpArgs false
section
namespace Go.Proofs.YtdiflpbioohddaaDoor
open Go.RowKit
def inB (v lo hi : Int) : Bool := decide (lo ≤ v) && decide (v ≤ hi)
def okW (b f r o : Int) : Bool := inB b 4 24 && (inB f 0 (b - 1) && (inB r 1 3 && inB o 1 2))
def lowW (b f r o : Int) : Int := if okW b f r o = true then -2 ^ (b - 1).toNat else 0
def highW (b f r o : Int) : Int := if okW b f r o = true then 2 ^ (b - 1).toNat - 1 else 0
def fitsW (b f r o v : Int) : Bool := okW b f r o && inB v (lowW b f r o) (highW b f r o)
def wrapF (b v : Int) : Int := if inB b 1 62 = true then Int.bmod v (2 ^ b.toNat) else 0
def satW (b f r o v : Int) : Int := min (max v (lowW b f r o)) (highW b f r o)
def reduceW (b f r o v : Int) : Int := if okW b f r o = true then (if o = 2 then wrapF b v else satW b f r o v) else 0
def shiftF (v n r : Int) : Int :=
  if (inB n 0 62 && inB r 1 3) = true then
    (if r = 2 then v / 2 ^ n.toNat + (if 0 < n then v / 2 ^ (n - 1).toNat % 2 else 0)
     else if r = 3 then v / 2 ^ n.toNat + (if v < 0 ∧ v % 2 ^ n.toNat ≠ 0 then 1 else 0) else v / 2 ^ n.toNat)
  else 0
def I64 (x : Int) : Prop := -9223372036854775808 ≤ x ∧ x ≤ 9223372036854775807
theorem ret_bool {a b : Bool} (h : a = b) : Ending.returned (.bool a) = .returned (.bool b) := by rw [h]
theorem ret_int {a b : Int} (h : a = b) : Ending.returned (.int .i64 a) = .returned (.int .i64 b) := by rw [h]
theorem bcell {W w1 : World} (hb : Below W.heap.size W w1) : (∀ b o, b < W.heap.size → w1.cell? ⟨b, o, none⟩ = W.cell? ⟨b, o, none⟩) ∧ (∀ b o, b < W.heap.size → w1.frozen? ⟨b, o, none⟩ = W.frozen? ⟨b, o, none⟩) :=
  ⟨fun b o h => hb.cell (p := ⟨b, o, none⟩) h, fun b o h => hb.frozen (p := ⟨b, o, none⟩) h⟩
theorem below_then {W w1 w2 : World} (h : Below W.heap.size W w1) (k : Below w1.heap.size w1 w2) : Below W.heap.size W w2 := h.trans (k.mono h.size)
theorem inB_iff {v lo hi : Int} : inB v lo hi = true ↔ lo ≤ v ∧ v ≤ hi := by simp [inB]
theorem inB_no {v lo hi : Int} : inB v lo hi = false ↔ v < lo ∨ hi < v := by
  rw [Bool.eq_false_iff, ne_eq, inB_iff]; omega
theorem okW_iff {b f r o : Int} : okW b f r o = true ↔ 4 ≤ b ∧ b ≤ 24 ∧ 0 ≤ f ∧ f ≤ b - 1 ∧ 1 ≤ r ∧ r ≤ 3 ∧ 1 ≤ o ∧ o ≤ 2 := by
  simp [okW, inB]; omega
theorem pow_pos' (n : Nat) : (1 : Int) ≤ 2 ^ n := Int.pow_pos (by decide : (0 : Int) < 2)
theorem pow_le {m n : Nat} (h : m ≤ n) : (2 : Int) ^ m ≤ 2 ^ n := by
  have h1 : 2 ^ m ≤ 2 ^ n := Nat.pow_le_pow_right (by decide) h
  have h2 : ((2 ^ m : Nat) : Int) ≤ ((2 ^ n : Nat) : Int) := Int.ofNat_le.2 h1
  simpa using h2
theorem pow62 : (2 : Int) ^ 62 = 4611686018427387904 := by decide
theorem pow_62 {n : Nat} (h : n ≤ 62) : (2 : Int) ^ n ≤ 4611686018427387904 := by have := pow_le h; rwa [pow62] at this
theorem w64_in {x : Int} (h1 : -9223372036854775808 ≤ x) (h2 : x ≤ 9223372036854775807) : wrap64 x = x := IntWalk.wrap64_in x ⟨h1, h2⟩
theorem w64_pow {n : Nat} (h : n ≤ 62) : wrap64 ((2 : Int) ^ n) = 2 ^ n := w64_in (by have := pow_pos' n; omega) (by have := pow_62 h; omega)
theorem w64_mask {n : Nat} (h : n ≤ 62) : wrap64 (wrap64 ((2 : Int) ^ n) - 1) = 2 ^ n - 1 := by
  rw [w64_pow h]; exact w64_in (by have := pow_pos' n; omega) (by have := pow_62 h; omega)
theorem low_bits {b f r o : Int} (h : okW b f r o = true) : wrap64 (-wrap64 (2 ^ (b.toNat - 1))) = lowW b f r o := by
  obtain ⟨h1, h2, _⟩ := okW_iff.1 h
  have hp := pow_pos' (b.toNat - 1)
  have hq := pow_62 (n := b.toNat - 1) (by omega)
  rw [w64_pow (by omega), w64_in (by omega) (by omega), lowW, if_pos h, show (b - 1).toNat = b.toNat - 1 by omega]
theorem high_bits {b f r o : Int} (h : okW b f r o = true) : wrap64 (wrap64 (2 ^ (b.toNat - 1)) - 1) = highW b f r o := by
  obtain ⟨h1, h2, _⟩ := okW_iff.1 h
  rw [w64_mask (by omega), highW, if_pos h, show (b - 1).toNat = b.toNat - 1 by omega]
theorem low_high (b f r o : Int) : -8388608 ≤ lowW b f r o ∧ lowW b f r o ≤ 0 ∧ 0 ≤ highW b f r o ∧ highW b f r o ≤ 8388607 := by
  unfold lowW highW
  split
  · rename_i h
    obtain ⟨h1, h2, _⟩ := okW_iff.1 h
    have hp := pow_pos' (b - 1).toNat
    have hq : (2 : Int) ^ (b - 1).toNat ≤ 2 ^ 23 := pow_le (by omega)
    have h23 : (2 : Int) ^ 23 = 8388608 := by decide
    omega
  · omega
def withinF (v m : Int) : Int := if m < 1 then 0 else v % m
theorem within_facts {m : Int} (h : 1 ≤ m) (v : Int) : ∃ T : Int, v.tmod m = T ∧ (-m < T ∧ T < m) ∧ (T < 0 → withinF v m = T + m) ∧ (0 ≤ T → withinF v m = T) := by
  have h1 := Int.tmod_eq_emod_of_nonneg (a := v) (b := m)
  have h2 := Int.lt_tmod_of_pos v (by omega : 0 < m)
  have h3 := Int.tmod_lt_of_pos v (by omega : 0 < m)
  have h4 := Int.emod_lt_of_pos v (by omega : 0 < m)
  have h5 := Int.emod_nonneg v (by omega : m ≠ 0)
  have key : withinF v m = v % m := by unfold withinF; rw [if_neg (by omega)]
  refine ⟨v.tmod m, rfl, ⟨h2, h3⟩, fun hn => ?_, fun hn => ?_⟩
  · rw [key]
    rcases Int.le_total 0 v with h0 | h0
    · rw [h1 h0] at hn; omega
    · have := Int.tmod_eq_emod (a := v) (b := m)
      have h6 : (m.natAbs : Int) = m := by omega
      split at this <;> omega
  · rw [key]
    have := Int.tmod_eq_emod (a := v) (b := m)
    have h6 : (m.natAbs : Int) = m := by omega
    split at this <;> omega
theorem within_in {m : Int} (h : 1 ≤ m) (v : Int) : 0 ≤ withinF v m ∧ withinF v m < m := by
  have h4 := Int.emod_lt_of_pos v (by omega : 0 < m)
  have h5 := Int.emod_nonneg v (by omega : m ≠ 0)
  unfold withinF
  rw [if_neg (by omega)]
  exact ⟨h5, h4⟩
theorem i64_of_wf {x : Int} (h : (Lit.int .i64 x).wf = true) : I64 x := by
  simp [Lit.wf, IntKind.min, IntKind.max, IntKind.signed, IntKind.bits] at h
  exact ⟨by omega, by omega⟩
end Go.Proofs.YtdiflpbioohddaaDoor
end
section
namespace Go.Proofs.YtdiflpbioohddaaDoor
open Go.RowKit
theorem below_drewN {B : Nat} {a w : World} (h : Below B a w) (n : Nat) : Below B a (w.drewN n) := ⟨h.os, h.tape, h.output, h.size, h.block⟩
structure Ext (w : World) where
  to : World
  below : Below w.heap.size w to
instance (w : World) : Nonempty (Ext w) := ⟨⟨w, Below.refl _ _⟩⟩
theorem Ext.cell {w : World} (n : Ext w) (p : Addr) (h : p.block < w.heap.size) : n.to.cell? p = w.cell? p := n.below.cell h
theorem Ext.frozen {w : World} (n : Ext w) (p : Addr) (h : p.block < w.heap.size) : n.to.frozen? p = w.frozen? p := n.below.frozen h
theorem wp_region_ext {P : Program} {id : Nat} {Q : Exit → Act → World → Prop} {a : Act} {w : World} {l : List Oper} (hm : P.follows .mixedOrders = true) (hB : Region.lexB .any l.toArray = true)
    (h : wpQuiet P l.toArray (fun w' => ∃ n : Ext w, w' = n.to) (fun a' => ∀ w', (∃ n : Ext w, w' = n.to) → Q .normal a' w') l a) : (Code.region id l.toArray true).wp P Q a w :=
  wp_region_quiet (C := fun w' => ∃ n : Ext w, w' = n.to) hm hB ⟨⟨{ w with drawn := w.drawn + 1 }, ⟨rfl, rfl, rfl, Nat.le_refl _, fun _ _ => rfl⟩⟩, rfl⟩ (by simpa using h)
theorem ext_call {P : Program} {f : FuncId} {args : Array Value} {w : World} {n : Ext w} {v : Value} {R : Ending → World → Prop} (h : Calls P f args n.to R)
    (hR : ∀ e w', R e w' → e = .returned v ∧ Below n.to.heap.size n.to w') : Calls P f args n.to fun e w'' => e = .returned v ∧ ∃ m : Ext w, w'' = m.to :=
  h.mono fun e w' hr => by
    obtain ⟨h1, h2⟩ := hR e w' hr
    exact ⟨h1, ⟨w', n.below.trans (h2.mono n.below.size)⟩, rfl⟩
theorem ext_below {P : Program} {f : FuncId} {args : Array Value} {w : World} {n : Ext w} {v : Value} (h : Calls P f args n.to fun e w' => e = .returned v ∧ Below n.to.heap.size n.to w') :
    Calls P f args n.to fun e w'' => e = .returned v ∧ ∃ m : Ext w, w'' = m.to := ext_call h fun _ _ h => h
theorem ext_same {P : Program} {f : FuncId} {args : Array Value} {w : World} {n : Ext w} {v : Value} (h : Calls P f args n.to fun e w' => e = .returned v ∧ n.to = w') :
    Calls P f args n.to fun e w'' => e = .returned v ∧ ∃ m : Ext w, w'' = m.to := ext_call h fun _ _ h => ⟨h.1, by rw [← h.2]; exact Below.refl _ _⟩
end Go.Proofs.YtdiflpbioohddaaDoor
end
section
namespace Go.Proofs.YtdiflpbioohddaaDoor
open Go.RowKit
abbrev wordV (b f r o : Int) : Value := .agg #[.int .i64 b, .int .i64 f, .int .i64 r, .int .i64 o]
theorem fx_mode (r : Int) (w : World) : Calls Tryd.prog 100 #[.int .i64 r] w fun e w' => e = .returned (.bool (inB r 1 3)) ∧ w = w' := by
  go_enter Tryd.func100, Tryd.ntmps100
  go_wp2
  all_goals go_ret
  all_goals exact ⟨ret_bool (by rw [Bool.eq_iff_iff]; simp [inB]; omega), rfl⟩
theorem rf_In (v lo hi : Int) (w : World) : Calls Tryd.prog 32 #[.int .i64 v, .int .i64 lo, .int .i64 hi] w fun e w' => e = .returned (.bool (inB v lo hi)) ∧ w = w' := by
  go_enter Tryd.func32, Tryd.ntmps32
  go_wp2
  all_goals go_ret
  all_goals exact ⟨ret_bool (by rw [Bool.eq_iff_iff]; simp [inB]; omega), rfl⟩
theorem fx_Valid (b f r o : Int) (w : World) : Calls Tryd.prog 67 #[wordV b f r o] w fun e w' => e = .returned (.bool (okW b f r o)) ∧ Below w.heap.size w w' := by
  go_enter Tryd.func67, Tryd.ntmps67
  go_wp2_with (go_at_call 100; refine (fx_mode _ _).mono ?_; rintro e w' ⟨rfl, rfl⟩)
  all_goals go_ret
  all_goals exact ⟨ret_bool (by rw [Bool.eq_iff_iff]; simp [inB, okW] at *; omega), (Below.refl _ _).alloc (Nat.le_refl _) _⟩
theorem rf_Valid (b f r o : Int) (w : World) : Calls Tryd.prog 31 #[wordV b f r o] w fun e w' => e = .returned (.bool (okW b f r o)) ∧ Below w.heap.size w w' := by
  go_enter Tryd.func31, Tryd.ntmps31
  go_wp2_with (go_at_call 32; refine (rf_In _ _ _ _).mono ?_; rintro e w' ⟨rfl, rfl⟩)
  all_goals go_ret
  all_goals exact ⟨ret_bool (by rw [Bool.eq_iff_iff]; simp [inB, okW, wrap64] at *; omega), (Below.refl _ _).alloc (Nat.le_refl _) _⟩
theorem fx_Valid_is {b f r o : Int} {c : Bool} (h : okW b f r o = c) (w : World) : Calls Tryd.prog 67 #[wordV b f r o] w fun e w' => e = .returned (.bool c) ∧ Below w.heap.size w w' := by
  subst h; exact fx_Valid _ _ _ _ _
theorem rf_Valid_is {b f r o : Int} {c : Bool} (h : okW b f r o = c) (w : World) : Calls Tryd.prog 31 #[wordV b f r o] w fun e w' => e = .returned (.bool c) ∧ Below w.heap.size w w' := by
  subst h; exact rf_Valid _ _ _ _ _
theorem fx_Low (b f r o : Int) (w : World) : Calls Tryd.prog 72 #[wordV b f r o] w fun e w' => e = .returned (.int .i64 (lowW b f r o)) ∧ Below w.heap.size w w' := by
  by_cases h : okW b f r o = true
  · obtain ⟨h1, h2, h3, h4, h5, h6, h7, h8⟩ := okW_iff.1 h
    go_enter Tryd.func72, Tryd.ntmps72
    go_wp2_with (go_at_call 67; refine (fx_Valid _ _ _ _ _).mono ?_; rintro e w' ⟨rfl, hb⟩; obtain ⟨hc, hf⟩ := bcell hb)
    go_ret
    exact ⟨ret_int (by rw [low_bits h]), ((Below.refl _ _).alloc (Nat.le_refl _) _).trans (hb.mono (by simp))⟩
  · have h0 : okW b f r o = false := by simpa using h
    go_enter Tryd.func72, Tryd.ntmps72
    go_wp2_with (go_at_call 67; refine (fx_Valid _ _ _ _ _).mono ?_; rintro e w' ⟨rfl, hb⟩; obtain ⟨hc, hf⟩ := bcell hb)
    go_ret
    exact ⟨ret_int (by simp [lowW, h]), ((Below.refl _ _).alloc (Nat.le_refl _) _).trans (hb.mono (by simp))⟩
theorem rf_Low (b f r o : Int) (w : World) : Calls Tryd.prog 50 #[wordV b f r o] w fun e w' => e = .returned (.int .i64 (lowW b f r o)) ∧ Below w.heap.size w w' := by
  by_cases h : okW b f r o = true
  · obtain ⟨h1, h2, h3, h4, h5, h6, h7, h8⟩ := okW_iff.1 h
    go_enter Tryd.func50, Tryd.ntmps50
    go_wp2_with (go_at_call 31; refine (rf_Valid _ _ _ _ _).mono ?_; rintro e w' ⟨rfl, hb⟩; obtain ⟨hc, hf⟩ := bcell hb)
    go_ret
    exact ⟨ret_int (by rw [low_bits h]), ((Below.refl _ _).alloc (Nat.le_refl _) _).trans (hb.mono (by simp))⟩
  · have h0 : okW b f r o = false := by simpa using h
    go_enter Tryd.func50, Tryd.ntmps50
    go_wp2_with (go_at_call 31; refine (rf_Valid _ _ _ _ _).mono ?_; rintro e w' ⟨rfl, hb⟩; obtain ⟨hc, hf⟩ := bcell hb)
    go_ret
    exact ⟨ret_int (by simp [lowW, h]), ((Below.refl _ _).alloc (Nat.le_refl _) _).trans (hb.mono (by simp))⟩
theorem fx_High (b f r o : Int) (w : World) : Calls Tryd.prog 73 #[wordV b f r o] w fun e w' => e = .returned (.int .i64 (highW b f r o)) ∧ Below w.heap.size w w' := by
  by_cases h : okW b f r o = true
  · obtain ⟨h1, h2, h3, h4, h5, h6, h7, h8⟩ := okW_iff.1 h
    go_enter Tryd.func73, Tryd.ntmps73
    go_wp2_with (go_at_call 67; refine (fx_Valid _ _ _ _ _).mono ?_; rintro e w' ⟨rfl, hb⟩; obtain ⟨hc, hf⟩ := bcell hb)
    go_ret
    exact ⟨ret_int (by rw [high_bits h]), ((Below.refl _ _).alloc (Nat.le_refl _) _).trans (hb.mono (by simp))⟩
  · have h0 : okW b f r o = false := by simpa using h
    go_enter Tryd.func73, Tryd.ntmps73
    go_wp2_with (go_at_call 67; refine (fx_Valid _ _ _ _ _).mono ?_; rintro e w' ⟨rfl, hb⟩; obtain ⟨hc, hf⟩ := bcell hb)
    go_ret
    exact ⟨ret_int (by simp [highW, h]), ((Below.refl _ _).alloc (Nat.le_refl _) _).trans (hb.mono (by simp))⟩
theorem rf_High (b f r o : Int) (w : World) : Calls Tryd.prog 51 #[wordV b f r o] w fun e w' => e = .returned (.int .i64 (highW b f r o)) ∧ Below w.heap.size w w' := by
  by_cases h : okW b f r o = true
  · obtain ⟨h1, h2, h3, h4, h5, h6, h7, h8⟩ := okW_iff.1 h
    go_enter Tryd.func51, Tryd.ntmps51
    go_wp2_with (go_at_call 31; refine (rf_Valid _ _ _ _ _).mono ?_; rintro e w' ⟨rfl, hb⟩; obtain ⟨hc, hf⟩ := bcell hb)
    go_ret
    exact ⟨ret_int (by rw [high_bits h]), ((Below.refl _ _).alloc (Nat.le_refl _) _).trans (hb.mono (by simp))⟩
  · have h0 : okW b f r o = false := by simpa using h
    go_enter Tryd.func51, Tryd.ntmps51
    go_wp2_with (go_at_call 31; refine (rf_Valid _ _ _ _ _).mono ?_; rintro e w' ⟨rfl, hb⟩; obtain ⟨hc, hf⟩ := bcell hb)
    go_ret
    exact ⟨ret_int (by simp [highW, h]), ((Below.refl _ _).alloc (Nat.le_refl _) _).trans (hb.mono (by simp))⟩
end Go.Proofs.YtdiflpbioohddaaDoor
end
section
namespace Go.Proofs.YtdiflpbioohddaaDoor
open Go.RowKit
theorem rf_Fits (b f r o v : Int) (w : World) : Calls Tryd.prog 33 #[wordV b f r o, .int .i64 v] w fun e w' => e = .returned (.bool (fitsW b f r o v)) ∧ Below w.heap.size w w' := by
  have hx := @Ext.cell
  rcases Bool.eq_false_or_eq_true (okW b f r o) with h | h
  all_goals
    go_enter Tryd.func33, Tryd.ntmps33
    go_wp2
    refine wp_region_ext (by kernel_rfl) (by kernel_rfl) ?_
    repeat (go_big_quiet_step (first
      | (go_at_call 31; exact ext_below (rf_Valid_is h _))
      | (go_at_call 50; exact ext_below (rf_Low _ _ _ _ _))
      | (go_at_call 51; exact ext_below (rf_High _ _ _ _ _))
      | (go_at_call 32; exact ext_same (rf_In _ _ _ _))))
    refine wpQuiet_nil ?_
    rintro _ ⟨⟨w1, hb1⟩, rfl⟩
    go_wp2
    go_ret
    exact ⟨ret_bool (by simp [fitsW, h]), ((Below.refl _ _).alloc (Nat.le_refl _) _).trans (hb1.mono (by simp))⟩
theorem fx_Fits (b f r o v : Int) (w : World) : Calls Tryd.prog 40 #[wordV b f r o, .int .i64 v] w fun e w' => e = .returned (.bool (fitsW b f r o v)) ∧ Below w.heap.size w w' := by
  rcases Bool.eq_false_or_eq_true (okW b f r o) with h | h
  · go_enter Tryd.func40, Tryd.ntmps40
    go_wp2_with (first
      | (go_at_call 67; refine (fx_Valid_is h _).mono ?_; rintro e w1 ⟨rfl, hb1⟩; obtain ⟨hc1, hf1⟩ := bcell hb1)
      | (go_at_call 72; refine (fx_Low _ _ _ _ _).mono ?_; rintro e w2 ⟨rfl, hb2'⟩; have hb2 := below_then hb1 hb2'; clear hb2'; obtain ⟨hc2, hf2⟩ := bcell hb2)
      | (go_at_call 73; refine (fx_High _ _ _ _ _).mono ?_; rintro e w3 ⟨rfl, hb3'⟩; have hb3 := below_then hb2 hb3'; clear hb3'))
    all_goals go_ret
    · exact ⟨ret_bool (by simp [fitsW, h, inB]; omega), ((Below.refl _ _).alloc (Nat.le_refl _) _).trans (hb3.mono (by simp))⟩
    · exact ⟨ret_bool (by simp [fitsW, h, inB]; omega), ((Below.refl _ _).alloc (Nat.le_refl _) _).trans (hb2.mono (by simp))⟩
  · go_enter Tryd.func40, Tryd.ntmps40
    go_wp2_with (first
      | (go_at_call 67; refine (fx_Valid_is h _).mono ?_; rintro e w1 ⟨rfl, hb1⟩))
    all_goals go_ret
    all_goals exact ⟨ret_bool (by simp [fitsW, h]), ((Below.refl _ _).alloc (Nat.le_refl _) _).trans (hb1.mono (by simp))⟩
end Go.Proofs.YtdiflpbioohddaaDoor
end
section
namespace Go.Proofs.YtdiflpbioohddaaDoor
open Go.RowKit
theorem block_add (a : Addr) (n : Nat) : (a.add n).block = a.block := by unfold Addr.add; split <;> rfl
theorem add_add (a : Addr) (i j : Nat) : (a.add i).add j = a.add (i + j) := by
  unfold Addr.add
  by_cases hi : i = 0 <;> by_cases hj : j = 0 <;> simp [hi, hj, Nat.add_assoc]
def Row (w : World) (B : Nat) (A : Option Addr) (xs : List Value) : Prop :=
  ∀ (k : Nat) (v : Value), xs[k]? = some v → ∃ ad, A = some ad ∧ ad.block < B ∧ w.cell? (ad.add k) = some v
section
variable {w w' : World} {B B' : Nat} {A : Option Addr} {xs : List Value}
theorem Row.nil : Row w B A [] := fun k v h => by simp at h
theorem Row.keep (h : Row w B A xs) (hb : Below B w w') : Row w' B A xs := fun k v hk => by
  obtain ⟨ad, e, h1, h2⟩ := h k v hk
  exact ⟨ad, e, h1, (hb.cell (by rw [block_add]; exact h1)).trans h2⟩
theorem Row.more (h : Row w B A xs) (hB : B ≤ B') : Row w B' A xs := fun k v hk => by
  obtain ⟨ad, e, h1, h2⟩ := h k v hk
  exact ⟨ad, e, by omega, h2⟩
theorem Row.grow (h : Row w w.heap.size A xs) (hb : Below w.heap.size w w') : Row w' w'.heap.size A xs := (h.keep hb).more hb.size
theorem Row.at_ {k : Nat} (h : Row w B A xs) (hk : k < xs.length) : ∃ ad v, A = some ad ∧ ad.block < B ∧ xs[k]? = some v ∧ w.cell? (ad.add k) = some v := by
  obtain ⟨ad, e, h1, h2⟩ := h k xs[k] (List.getElem?_eq_getElem hk)
  exact ⟨ad, xs[k], e, h1, List.getElem?_eq_getElem hk, h2⟩
theorem Row.of_own {base n c : Nat} {e : TypeId} (h : w.ownsRow base e 1 (.slice A n c) n xs) : Row w w.heap.size A xs := fun k v hk => by
  have h0 := h
  obtain ⟨hl, h2 | ⟨g, cap, cur, hv, hb, hh, hn, hm, hs, ht⟩⟩ := h
  · obtain ⟨_, rfl⟩ := h2
    have : xs = [] := List.eq_nil_of_length_eq_zero (by omega)
    subst this; simp at hk
  · injection hv with hA
    subst hA
    exact ⟨_, rfl, (h0.lt g rfl).2, h0.cells (g := g) rfl k v hk⟩
end
theorem own_form {w : World} {base n size : Nat} {e : TypeId} {v : Value} {xs : List Value} (h : w.ownsRow base e size v n xs) : ∃ A c, v = .slice A n c ∧ n ≤ c := by
  obtain ⟨_, ⟨rfl, rfl⟩ | ⟨g, cap, cur, rfl, _, _, hn, _⟩⟩ := h
  · exact ⟨none, 0, rfl, Nat.le_refl _⟩
  · exact ⟨_, cap, rfl, hn⟩
def Ints (w : World) (A : Option Addr) (l : List Int) : Prop := Row w w.heap.size A (l.map (Value.int .i64)) ∧ ∀ x ∈ l, I64 x
section
variable {w w' : World} {A : Option Addr} {l : List Int}
theorem Ints.nil : Ints w A [] := ⟨Row.nil, by simp⟩
theorem Ints.grow (h : Ints w A l) (hb : Below w.heap.size w w') : Ints w' A l := ⟨h.1.grow hb, h.2⟩
theorem Ints.at_ {k : Nat} (h : Ints w A l) (hk : k < l.length) : ∃ ad x, A = some ad ∧ ad.block < w.heap.size ∧ l[k]? = some x ∧ w.cell? (ad.add k) = some (.int .i64 x) ∧ -9223372036854775808 ≤ x ∧ x ≤ 9223372036854775807 := by
  obtain ⟨ad, v, e, h1, h2, h3⟩ := h.1.at_ (k := k) (by simpa using hk)
  have hx : l[k]? = some l[k] := List.getElem?_eq_getElem hk
  rw [List.getElem?_map, hx] at h2
  simp only [Option.map_some, Option.some.injEq] at h2
  subst h2
  obtain ⟨i1, i2⟩ := h.2 l[k] (List.getElem_mem hk)
  exact ⟨ad, l[k], e, h1, hx, h3, i1, i2⟩
end
theorem take_succ_all {α : Type} {l : List α} {k : Nat} {x : α} (h : l[k]? = some x) (p : α → Bool) : (l.take (k + 1)).all p = ((l.take k).all p && p x) := by
  rw [List.take_add_one, h]; simp
theorem all_no {α : Type} {l : List α} {k : Nat} {x : α} (h : l[k]? = some x) {p : α → Bool} (hp : p x = false) : l.all p = false := by
  rw [List.all_eq_false]; exact ⟨x, List.mem_of_getElem? h, by simp [hp]⟩
theorem take_snoc' {α : Type} {l : List α} {k : Nat} {x : α} (h : l[k]? = some x) : l.take (k + 1) = l.take k ++ [x] := by
  rw [List.take_add_one, h]; simp
end Go.Proofs.YtdiflpbioohddaaDoor
end
section
namespace Go.Proofs.YtdiflpbioohddaaDoor
open Go.RowKit
def wordsB (b f r o : Int) (l : List Int) : Bool := l.all fun x => fitsW b f r o x
theorem rf_Words (b f r o : Int) (A : Option Addr) (l : List Int) (c : Nat) (w : World) (hl : l.length ≤ 9223372036854775807) (h : Ints w A l) :
    Calls Tryd.prog 15 #[wordV b f r o, .slice A l.length c] w fun e w' => e = .returned (.bool (wordsB b f r o l)) ∧ Below w.heap.size w w' := by
  go_enter Tryd.func15, Tryd.ntmps15
  go_wp2
  go_loopw [5] (fun i wr => ∃ k : Nat, k ≤ l.length ∧ i = .int .i64 k ∧ (l.take k).all (fun x => fitsW b f r o x) = true ∧ Below (w.heap.size + 1) (w.alloc (.cells #[.int .i64 b, .int .i64 f, .int .i64 r, .int .i64 o] 23)) wr) (fun i _ => l.length - (intOf i).toNat)
  case atStart => exact ⟨0, Nat.zero_le _, rfl, rfl, Below.refl _ _⟩
  case round =>
    obtain ⟨k, hk, rfl, hall, hbw⟩ := hrel
    have hz : w.heap.size < wr.heap.size := by have := hbw.size; simp at this; omega
    by_cases hlt : k < l.length
    · obtain ⟨ad, x, rfl, hb, hx, hc, i1, i2⟩ := h.at_ hlt
      have HS := Lib.hid (take_succ_all hx (fun x => fitsW b f r o x))
      have HN := Lib.hid (all_no hx (p := fun x => fitsW b f r o x))
      have HA := Lib.hid hall
      have x0 : ∀ n : Ext wr, n.to.cell? ⟨w.heap.size, 0, none⟩ = some (.int .i64 b) := fun n => (n.cell _ hz).trans ((hbw.cell (Nat.lt_succ_self _)).trans (by simp [go_sem]))
      have x1 : ∀ n : Ext wr, n.to.cell? ⟨w.heap.size, 1, none⟩ = some (.int .i64 f) := fun n => (n.cell _ hz).trans ((hbw.cell (Nat.lt_succ_self _)).trans (by simp [go_sem]))
      have x2 : ∀ n : Ext wr, n.to.cell? ⟨w.heap.size, 2, none⟩ = some (.int .i64 r) := fun n => (n.cell _ hz).trans ((hbw.cell (Nat.lt_succ_self _)).trans (by simp [go_sem]))
      have x3 : ∀ n : Ext wr, n.to.cell? ⟨w.heap.size, 3, none⟩ = some (.int .i64 o) := fun n => (n.cell _ hz).trans ((hbw.cell (Nat.lt_succ_self _)).trans (by simp [go_sem]))
      have xk : ∀ n : Ext wr, n.to.cell? (ad.add k) = some (.int .i64 x) := fun n => (n.cell _ (by rw [block_add]; omega)).trans ((hbw.cell (by rw [block_add]; omega)).trans ((World.cell?_alloc_lt _ _ _ (by rw [block_add]; omega)).trans hc))
      clear hall hx hc h
      rcases Bool.eq_false_or_eq_true (fitsW b f r o x) with hin | hin
      all_goals
        go_wp2_with fail
        refine wp_region_ext (by kernel_rfl) (by kernel_rfl) ?_
        repeat (go_big_quiet_step (first | (go_at_call 33; exact ext_below (rf_Fits _ _ _ _ _ _))))
        refine wpQuiet_nil ?_
        rintro _ ⟨⟨w1, hb1⟩, rfl⟩
        go_wp2
      · go_roundw
        case rel => exact ⟨k + 1, by omega, by go_num, by rw [HS.out, HA.out, hin]; rfl, hbw.trans (hb1.mono (by omega))⟩
        case measure => simp [intOf]; omega
      · go_ret
        exact ⟨ret_bool (HN.out hin).symm, ((Below.refl _ _).alloc (Nat.le_refl _) _).trans ((hbw.trans (hb1.mono (by omega))).mono (by omega))⟩
    · go_wp2
      go_ret
      exact ⟨ret_bool (by rw [List.take_of_length_le (by omega)] at hall; exact hall.symm), ((Below.refl _ _).alloc (Nat.le_refl _) _).trans (hbw.mono (by omega))⟩
theorem rf_SameInts (A B : Option Addr) (l m : List Int) (c d : Nat) (w : World) (hm : m.length ≤ 9223372036854775807) (h : Ints w A l) (g : Ints w B m) :
    Calls Tryd.prog 26 #[.slice A l.length c, .slice B m.length d] w fun e w' => e = .returned (.bool (l == m)) ∧ Below w.heap.size w w' := by
  by_cases hlen : l.length = m.length
  · have hlen' : ((l.length : Int) != (m.length : Int)) = false := by simp [hlen]
    have HL := Lib.hid hlen
    have hle : l.length ≤ m.length := by omega
    clear hlen
    go_enter Tryd.func26, Tryd.ntmps26
    go_wp2
    go_loopw [5] (fun i wr => ∃ k : Nat, k ≤ l.length ∧ i = .int .i64 k ∧ l.take k = m.take k ∧ Below w.heap.size w wr) (fun i _ => l.length - (intOf i).toNat)
    case atStart => exact ⟨0, Nat.zero_le _, rfl, rfl, Below.refl _ _⟩
    case round =>
      obtain ⟨k, hk, rfl, hall, hbw⟩ := hrel
      by_cases hlt : k < l.length
      · obtain ⟨ad, x, rfl, hb, hx, hc, i1, i2⟩ := h.at_ hlt
        obtain ⟨ad2, y, rfl, hb2, hy, hc2, j1, j2⟩ := g.at_ (k := k) (by omega)
        have q1 := (hbw.cell (p := ad.add k) (by rw [block_add]; exact hb)).trans hc
        have q2 := (hbw.cell (p := ad2.add k) (by rw [block_add]; exact hb2)).trans hc2
        have HS := Lib.hid (take_snoc' hx)
        have HT := Lib.hid (take_snoc' hy)
        have HA := Lib.hid hall
        have HX := Lib.hid hx
        have HY := Lib.hid hy
        clear hall hx hy hc hc2 h g
        by_cases hxy : x = y
        · subst hxy
          go_wp2
          go_quiet (fail)
          go_wp2
          go_roundw
          case rel => exact ⟨k + 1, by omega, by go_num, by rw [HS.out, HT.out, HA.out], below_drewN hbw _⟩
          case measure => simp [intOf]; omega
        · have hne : (x != y) = true := by simp [hxy]
          go_wp2
          go_quiet (fail)
          go_wp2
          go_ret
          refine ⟨ret_bool ?_, below_drewN hbw _⟩
          have h1 := HX.out
          have h2 := HY.out
          symm
          rw [beq_eq_false_iff_ne]
          intro e
          rw [e, h2] at h1
          exact hxy (Option.some.inj h1).symm
      · go_wp2
        go_ret
        refine ⟨ret_bool ?_, hbw⟩
        have h1 := HL.out
        rw [List.take_of_length_le (by omega), List.take_of_length_le (by omega)] at hall
        rw [hall]; simp
  · have hlen' : ((l.length : Int) != (m.length : Int)) = true := by simp; omega
    have hne : (l == m) = false := by simp; intro e; rw [e] at hlen; exact hlen rfl
    have HE := Lib.hid hne
    clear hlen hne
    go_enter Tryd.func26, Tryd.ntmps26
    go_wp2
    go_ret
    exact ⟨ret_bool HE.out.symm, Below.refl _ _⟩
def atF (l : List Int) (i : Int) : Int := if 0 ≤ i then l[i.toNat]?.getD 0 else 0
theorem atF_nat {l : List Int} {k : Nat} {x : Int} (h : l[k]? = some x) : atF l (k : Int) = x := by
  unfold atF; rw [if_pos (by omega), Int.toNat_natCast, h]; rfl
theorem atF_no {l : List Int} {i : Int} (h : i < 0 ∨ (l.length : Int) ≤ i) : atF l i = 0 := by
  unfold atF
  split
  · rw [List.getElem?_eq_none (by omega)]; rfl
  · rfl
theorem wd_At (A : Option Addr) (l : List Int) (c : Nat) (i : Int) (w : World) (h : Ints w A l) :
    Calls Tryd.prog 24 #[.slice A l.length c, .int .i64 i] w fun e w' => e = .returned (.int .i64 (atF l i)) ∧ w = w' := by
  by_cases h1 : 0 ≤ i ∧ i < l.length
  · obtain ⟨k, rfl⟩ := Int.eq_ofNat_of_zero_le h1.1
    have h2 : k < l.length := by omega
    obtain ⟨ad, x, rfl, hb, hx, hc, i1, i2⟩ := h.at_ h2
    have HX := Lib.hid (atF_nat hx)
    clear hx h h1
    go_enter Tryd.func24, Tryd.ntmps24
    go_wp2
    go_ret
    exact ⟨ret_int HX.out.symm, rfl⟩
  · have HX := Lib.hid (atF_no (l := l) (i := i) (by omega))
    have h2 : 0 ≤ i → (l.length : Int) ≤ i := by omega
    clear h1
    go_enter Tryd.func24, Tryd.ntmps24
    go_wp2
    all_goals go_ret
    all_goals exact ⟨ret_int HX.out.symm, rfl⟩
end Go.Proofs.YtdiflpbioohddaaDoor
end
section
namespace Go.Proofs.YtdiflpbioohddaaDoor
open Go.RowKit
theorem wd_Within (v m : Int) (w : World) (hm : m ≤ 9223372036854775807) : Calls Tryd.prog 23 #[.int .i64 v, .int .i64 m] w fun e w' => e = .returned (.int .i64 (withinF v m)) ∧ w = w' := by
  by_cases h : 1 ≤ m
  · obtain ⟨T, e1, a1, f1, f2⟩ := within_facts h v
    have F1 := Lib.hid f1
    have F2 := Lib.hid f2
    clear f1 f2
    go_enter Tryd.func23, Tryd.ntmps23
    go_wp2
    all_goals go_ret
    · exact ⟨ret_int (F1.out (by omega)).symm, rfl⟩
    · exact ⟨ret_int (F2.out (by omega)).symm, rfl⟩
  · have E : Hid (withinF v m = 0) := by unfold withinF; rw [if_pos (by omega)]; exact rfl
    go_enter Tryd.func23, Tryd.ntmps23
    go_wp2
    go_ret
    exact ⟨ret_int E.out.symm, rfl⟩
end Go.Proofs.YtdiflpbioohddaaDoor
end
section
namespace Go.Proofs.YtdiflpbioohddaaDoor
open Go.RowKit
theorem wpList_app1 {P : Program} {ops : Array Oper} {rest : List Oper} {o : Oper} {a : Act} {Q : Exit → Act → World → Prop} (W : World) (hgd : o.guard = none) (s x : Operand) (t : TypeId)
    (ho : o.op = .call { callee := .builtin .append, args := #[s, x], argTypes := #[t, t] })
    (base : Nat) (e : TypeId) (i : TypeInfo) (z : Value) (bytes : Nat) (ht : P.underlying t = some (.slice e)) (hi : P.info? e = some i) (hz : i.zero = some z)
    (hsize : i.size = 1) (hby : i.bytes = bytes) (hzs : z.cells.size = 1) (hbl : bytes ≤ 1000000)
    {v u : Value} {n : Nat} {xs : List Value} (hown : W.ownsRow base e 1 v n xs) (hs : a.eval s = v)
    (hx : a.eval x = .slice (some ⟨W.heap.size, 0, none⟩) 1 1) (h1 : u.oneCell' = true) (hn : n < 100000000) (hbase : base ≤ W.heap.size)
    (h : ∀ v' w', w'.ownsRow base e 1 v' (n + 1) (xs ++ [u]) → Below base W w' → wpList P ops Q rest (a.put o.dst v') w') :
    wpList P ops Q (o :: rest) a (W.alloc (.cells #[u] e)) := by
  refine wpList_append_own _ hgd s x t ho base e i z 1 bytes ht hi hz hsize hby hzs (by decide) v n xs hs (hown.alloc _) ⟨W.heap.size, 0, none⟩ 1 1 [u] hx rfl ?_ ?_ ?_ ?_ ?_ ?_
  · intro j q hj
    match j, hj with
    | 0, hj => simp at hj; subst hj; simp [Addr.add]
  · intro q hq; simp at hq; subst hq; exact h1
  · unfold maxLen; omega
  · have : (n + 1) * bytes ≤ 100000000 * 1000000 := Nat.mul_le_mul (by omega) hbl
    omega
  · simp; omega
  · intro v' w' ho' hg' _
    refine h v' w' ho' ?_
    have hb := (Below.refl base W).alloc hbase (.cells #[u] e)
    exact hb.grown hg' (by simp; omega) (fun k hk => (hown.lt k hk).1)
theorem step_app1 {P : Program} {ops : Array Oper} {o : Oper} {a : Act} {K : Act → World → Prop} {Q : Exit → Act → World → Prop} {E : Prop} (W : World) (hgd : o.guard = none) (s x : Operand) (t : TypeId)
    (ho : o.op = .call { callee := .builtin .append, args := #[s, x], argTypes := #[t, t] })
    (base : Nat) (e : TypeId) (i : TypeInfo) (z : Value) (bytes : Nat) (ht : P.underlying t = some (.slice e)) (hi : P.info? e = some i) (hz : i.zero = some z)
    (hsize : i.size = 1) (hby : i.bytes = bytes) (hzs : z.cells.size = 1) (hbl : bytes ≤ 1000000)
    {v u : Value} {n : Nat} {xs : List Value} (hown : W.ownsRow base e 1 v n xs) (hs : a.eval s = v)
    (hx : a.eval x = .slice (some ⟨W.heap.size, 0, none⟩) 1 1) (h1 : u.oneCell' = true) (hn : n < 100000000) (hbase : base ≤ W.heap.size)
    (h : ∀ v' w', w'.ownsRow base e 1 v' (n + 1) (xs ++ [u]) → Below base W w' → K (a.put o.dst v') w') :
    if Region.wanted o (yielded ops a.tmps) = true then Oper.wp P o a (W.alloc (.cells #[u] e)) K Q else E := by
  have hw : Region.wanted o (yielded ops a.tmps) = true := by simp [Region.wanted, hgd]
  rw [if_pos hw]
  refine wp_append_own _ s x t ho base e i z 1 bytes ht hi hz hsize hby hzs (by decide) v n xs hs (hown.alloc _) ⟨W.heap.size, 0, none⟩ 1 1 [u] hx rfl ?_ ?_ ?_ ?_ ?_ ?_
  · intro j q hj
    match j, hj with
    | 0, hj => simp at hj; subst hj; simp [Addr.add]
  · intro q hq; simp at hq; subst hq; exact h1
  · unfold maxLen; omega
  · have : (n + 1) * bytes ≤ 100000000 * 1000000 := Nat.mul_le_mul (by omega) hbl
    omega
  · simp; omega
  · intro v' w' ho' hg' _
    refine h v' w' ho' ?_
    have hb := (Below.refl base W).alloc hbase (.cells #[u] e)
    exact hb.grown hg' (by simp; omega) (fun k hk => (hown.lt k hk).1)
theorem own_grow {w w' : World} {base n size : Nat} {e : TypeId} {v : Value} {xs : List Value} (h : w.ownsRow base e size v n xs) (hb : Below w.heap.size w w') : w'.ownsRow base e size v n xs := by
  obtain ⟨h1, h2 | ⟨g, cap, cur, hv, hg, hh, r⟩⟩ := h
  · exact ⟨h1, .inl h2⟩
  · have hlt : g < w.heap.size := by
      rcases Nat.lt_or_ge g w.heap.size with h | h
      · exact h
      · rw [Array.getElem?_eq_none h] at hh; cases hh
    exact ⟨h1, .inr ⟨g, cap, cur, hv, hg, (hb.block g hlt).trans hh, r⟩⟩
theorem own_base {w : World} {base base' n size : Nat} {e : TypeId} {v : Value} {xs : List Value} (h : w.ownsRow base e size v n xs) (hb : base' ≤ base) : w.ownsRow base' e size v n xs := by
  obtain ⟨h1, h2 | ⟨g, cap, cur, hv, hg, r⟩⟩ := h
  · exact ⟨h1, .inl h2⟩
  · exact ⟨h1, .inr ⟨g, cap, cur, hv, by omega, r⟩⟩
theorem info_int : (Tryd.prog.info? 3).map (fun i => (i.zero, i.size, i.bytes)) = some (some (.int .i64 0), 1, 8) := by kernel_rfl
def Own (base : Nat) (w : World) (v : Value) (l : List Int) : Prop := w.ownsRow base 3 1 v l.length (l.map (Value.int .i64)) ∧ ∀ x ∈ l, I64 x
theorem Own.nil {base : Nat} {w : World} : Own base w (.slice none 0 0) [] := ⟨World.ownsRow_nil _ _ _ _, by simp⟩
theorem Own.form {base : Nat} {w : World} {v : Value} {l : List Int} (h : Own base w v l) : ∃ A c, v = .slice A l.length c ∧ l.length ≤ c ∧ Ints w A l := by
  obtain ⟨A, c, rfl, hc⟩ := own_form h.1
  exact ⟨A, c, rfl, hc, Row.of_own h.1, h.2⟩
theorem Own.grow {base : Nat} {w w' : World} {v : Value} {l : List Int} (h : Own base w v l) (hb : Below w.heap.size w w') : Own base w' v l := ⟨own_grow h.1 hb, h.2⟩
theorem Own.base {base base' : Nat} {w : World} {v : Value} {l : List Int} (h : Own base w v l) (hb : base' ≤ base) : Own base' w v l := ⟨own_base h.1 hb, h.2⟩
theorem step_app_int {ops : Array Oper} {o : Oper} {a : Act} {K : Act → World → Prop} {Q : Exit → Act → World → Prop} {E : Prop} (W : World) {W1 : World} (hgd : o.guard = none) (s x : Operand)
    (ho : o.op = .call { callee := .builtin .append, args := #[s, x], argTypes := #[25, 25] }) (base : Nat) {v : Value} {l : List Int} {y : Int} (hown : Own base W v l) (hW : W1 = W.alloc (.cells #[.int .i64 y] 3)) (hs : a.eval s = v)
    (hx : a.eval x = .slice (some ⟨W.heap.size, 0, none⟩) 1 1) (hn : l.length < 100000000) (hbase : base ≤ W.heap.size) (hy : I64 y)
    (h : ∀ v' w', Own base w' v' (l ++ [y]) → Below base W w' → K (a.put o.dst v') w') :
    if Region.wanted o (yielded ops a.tmps) = true then Oper.wp Tryd.prog o a W1 K Q else E := by
  subst hW
  obtain ⟨i0, hi, hz0, hz1, hz2⟩ := info_parts info_int
  refine step_app1 W hgd s x 25 ho base 3 i0 (.int .i64 0) 8 Tryd.underlying25 hi hz0 hz1 hz2 rfl (by decide) hown.1 hs hx rfl hn hbase fun v' w' h1 h2 => h v' w' ⟨?_, ?_⟩ h2
  · simpa using h1
  · intro q hq
    rcases List.mem_append.1 hq with hq | hq
    · exact hown.2 q hq
    · simp at hq; subst hq; exact hy
theorem app_int {ops : Array Oper} {rest : List Oper} {o : Oper} {a : Act} {Q : Exit → Act → World → Prop} (W : World) (hgd : o.guard = none) (s x : Operand)
    (ho : o.op = .call { callee := .builtin .append, args := #[s, x], argTypes := #[25, 25] }) (base : Nat) {v : Value} {l : List Int} {y : Int} (hown : Own base W v l) (hs : a.eval s = v)
    (hx : a.eval x = .slice (some ⟨W.heap.size, 0, none⟩) 1 1) (hn : l.length < 100000000) (hbase : base ≤ W.heap.size) (hy : I64 y)
    (h : ∀ v' w', Own base w' v' (l ++ [y]) → Below base W w' → wpList Tryd.prog ops Q rest (a.put o.dst v') w') :
    wpList Tryd.prog ops Q (o :: rest) a (W.alloc (.cells #[.int .i64 y] 3)) := by
  obtain ⟨i0, hi, hz0, hz1, hz2⟩ := info_parts info_int
  refine wpList_app1 W hgd s x 25 ho base 3 i0 (.int .i64 0) 8 Tryd.underlying25 hi hz0 hz1 hz2 rfl (by decide) hown.1 hs hx rfl hn hbase fun v' w' h1 h2 => h v' w' ⟨?_, ?_⟩ h2
  · simpa using h1
  · intro q hq
    rcases List.mem_append.1 hq with hq | hq
    · exact hown.2 q hq
    · simp at hq; subst hq; exact hy
theorem box4_S {w w' : World} {x0 x1 x2 x3 : Value} {t : TypeId} (h : Below (w.heap.size + 1) (w.alloc (.cells #[x0, x1, x2, x3] t)) w') :
    w'.cell? ⟨w.heap.size, 0, none⟩ = some x0 ∧ w'.cell? ⟨w.heap.size, 1, none⟩ = some x1 ∧ w'.cell? ⟨w.heap.size, 2, none⟩ = some x2 ∧ w'.cell? ⟨w.heap.size, 3, none⟩ = some x3 := by
  refine ⟨?_, ?_, ?_, ?_⟩ <;> exact (h.cell (Nat.lt_succ_self _)).trans (by simp [go_sem])
theorem below_box {w w' : World} {o : Obj} (h : Below (w.heap.size + 1) (w.alloc o) w') : Below w.heap.size w w' := ((Below.refl _ _).alloc (Nat.le_refl _) _).trans (h.mono (by omega))
end Go.Proofs.YtdiflpbioohddaaDoor
end
