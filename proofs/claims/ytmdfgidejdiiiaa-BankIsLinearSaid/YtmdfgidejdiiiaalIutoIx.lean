/- Several texts in one: Iu Ix. -/
import Derived.Test.YtmdfgidejdiiiaalIstoIt
import Derived.Test.YtmdfgidejdiiiaalFxtoV1
set_option linter.unusedVariables false
set_option linter.unusedSimpArgs false
section
namespace Go.Proofs.Ytmdfgidejdiiiaa
open Go.RowKit
def IsRat (v : Value) : Prop := ∃ ng A n c B m d, v = .agg #[.bool ng, .slice A n c, .slice B m d]
def RN (x y : Int) (K : Nat) (b : Nat) (w : World) (v : Value) : Prop := ∃ p q, RatN b w v p q K ∧ 0 < q ∧ (x : Rat) / (y : Rat) = (p : Rat) / (q : Rat) ∧ (y = 1 → q = 1)
theorem RN_keep {x y : Int} {K : Nat} (b : Nat) (w w' : World) (v : Value) (h : RN x y K b w v) (hb : Below w.heap.size w w') : RN x y K b w' v := by
  obtain ⟨p, q, h, r⟩ := h; exact ⟨p, q, h.grow hb, r⟩
theorem RatA.isRat {w : World} {v : Value} {z : Rat} {K : Nat} (h : RatA w v z K) : IsRat v := by
  obtain ⟨neg, A, n, c, l, B, m, d, r, e, -⟩ := h; exact ⟨_, _, _, _, _, _, _, e⟩
theorem rat_sum {x1 y1 x2 y2 : Int} (h1 : 0 < y1) (h2 : 0 < y2) : (x1 : Rat) / (y1 : Rat) + (x2 : Rat) / (y2 : Rat) = ((x1 * y2 + x2 * y1 : Int) : Rat) / ((y1 * y2 : Int) : Rat) := by
  rw [Rat.intCast_add, Rat.intCast_mul, Rat.intCast_mul, Rat.intCast_mul]
  have a := Rat.mul_inv_cancel _ (cast_pos h1)
  have b := Rat.mul_inv_cancel _ (cast_pos h2)
  rw [Rat.div_def, Rat.div_def, Rat.div_def, Rat.inv_mul_rev, Rat.add_mul, Rat.mul_assoc, ← Rat.mul_assoc (y2 : Rat), b, Rat.one_mul, Rat.mul_comm (y2 : Rat)⁻¹, Rat.mul_assoc, ← Rat.mul_assoc (y1 : Rat), a, Rat.one_mul]
set_option maxRecDepth 100000 in
set_option maxHeartbeats 4000000 in
theorem r3_AddE (v u : Value) (x1 y1 x2 y2 : Int) (K M : Nat) (w : World) (hv : IsRat v) (hu : IsRat u) (C1 : ∀ w1, Below w.heap.size w w1 → Calls Try.prog 60 #[v] w1 (RetPT w.heap.size w1 x1 y1 K)) (C2 : ∀ w1, Below w.heap.size w w1 → Calls Try.prog 60 #[u] w1 (RetPT w.heap.size w1 x2 y2 M)) (hK : 1 ≤ K) (hM : 1 ≤ M) (h9 : K ≤ 400000) (h8 : M ≤ 400000) : Calls Try.prog 28 #[v, u] w (RetRN w (x1 * y2 + x2 * y1) (y1 * y2) (K + M + 1)) := by
  obtain ⟨sa, A, na, ca, B, ma, da, rfl⟩ := hv
  obtain ⟨sb, A2, nb, cb, B2, mb, db, rfl⟩ := hu
  have CP1 := Lib.hid C1
  have CP2 := Lib.hid C2
  have h7 : K + M + 1 ≤ 1000000 := by omega
  have h9 : K ≤ 1000000 := by omega
  have h8 : M ≤ 1000000 := by omega
  clear C1 C2
  obtain ⟨dI, hI1, hI2⟩ := row_Int
  have HI := Lib.hid (And.intro hI1 hI2)
  clear hI1 hI2
  obtain ⟨dsR, hR1, hR2⟩ := row_Rat
  have HRR := Lib.hid (And.intro hR1 hR2)
  clear hR1 hR2
  go_enter Try.func28, Try.ntmps28
  go_upto_region 1 with fail
  have hB0 : Below w.heap.size w (((w.alloc (.cells #[.bool sa, .slice A na ca, .slice B ma da] 28)).alloc (.cells #[.bool sb, .slice A2 nb cb, .slice B2 mb db] 28)).alloc (.cells #[.bool false, .slice none 0 0, .slice none 0 0] 28)) := ((((Below.refl _ _).alloc (Nat.le_refl _) _).alloc (by simp; try omega) _).alloc (by simp; try omega) _)
  have bx0 : Box (((w.alloc (.cells #[.bool sa, .slice A na ca, .slice B ma da] 28)).alloc (.cells #[.bool sb, .slice A2 nb cb, .slice B2 mb db] 28)).alloc (.cells #[.bool false, .slice none 0 0, .slice none 0 0] 28)) (w.heap.size) [.bool sa, .slice A na ca, .slice B ma da] := (((Box.new (by simp)).alloc _).alloc _)
  have bx1 : Box (((w.alloc (.cells #[.bool sa, .slice A na ca, .slice B ma da] 28)).alloc (.cells #[.bool sb, .slice A2 nb cb, .slice B2 mb db] 28)).alloc (.cells #[.bool false, .slice none 0 0, .slice none 0 0] 28)) (w.heap.size + 1) [.bool sb, .slice A2 nb cb, .slice B2 mb db] := ((Box.new (by simp)).alloc _)
  have bx2 : Box (((w.alloc (.cells #[.bool sa, .slice A na ca, .slice B ma da] 28)).alloc (.cells #[.bool sb, .slice A2 nb cb, .slice B2 mb db] 28)).alloc (.cells #[.bool false, .slice none 0 0, .slice none 0 0] 28)) (w.heap.size + 1 + 1) [.bool false, .slice none 0 0, .slice none 0 0] := (Box.new (by simp))
  generalize ((w.alloc (.cells #[.bool sa, .slice A na ca, .slice B ma da] 28)).alloc (.cells #[.bool sb, .slice A2 nb cb, .slice B2 mb db] 28)).alloc (.cells #[.bool false, .slice none 0 0, .slice none 0 0] 28) = wA at hB0 bx0 bx1 bx2 ⊢
  have HA := Lib.hid (And.intro hB0 (And.intro bx0 (And.intro bx1 bx2)))
  clear hB0 bx0 bx1 bx2
  go_upto_region 2 with (first
    | ((with_reducible show wpList _ _ _ (Oper.mk _ (.load 28 _) _ _ _ _ :: _) _ _); refine wp_ld rfl 28 _ rfl (w.heap.size) 0 rfl (HA.out.2.1) [.bool sa, .slice A na ca, .slice B ma da] (fun j v h => by rcases j with _ | _ | _ | j <;> simp at h ⊢ <;> exact h) dsR HRR.out.1 HRR.out.2 size_Rat ?_)
    | (go_at_call 60; (with_reducible refine (CP1.out _ HA.out.1).mono ?_); rintro e1 w1 ⟨g11, A11, n11, c11, g21, A21, n21, c21, rfl, hx, hy, hb⟩; have HP1 := Lib.hid (And.intro hx hy); have HB1 := Lib.hid hb; clear hx hy hb)
    | ((with_reducible show wpList _ _ _ (Oper.mk none (.store 26 (.tmp 5) _) _ _ _ _ :: _) _ _); refine wp_st rfl 26 _ _ rfl (w1.heap.size) 0 [_, _] rfl rfl size_Int rfl ((Box.new rfl).alloc _) (Nat.le_refl _) rfl ?_; intro Wa1 da1 qa1)
    | ((with_reducible show wpList _ _ _ (Oper.mk none (.store 26 (.tmp 6) _) _ _ _ _ :: _) _ _); refine wp_st rfl 26 _ _ rfl (w1.heap.size + 1) 0 [_, _] rfl rfl size_Int rfl ((Box.new (by simp)).grown qa1 (fun e => by injection e with e; omega)) (Nat.le_refl _) rfl ?_; intro Wb1 db1 qb1))
  have hbk : Below w1.heap.size w1 Wb1 := put_facts (put_facts (((Below.refl _ _).alloc (Nat.le_refl _) _).alloc (by simp) _) (Nat.le_refl _) qa1) (by omega) qb1
  have hxk : Box Wb1 w1.heap.size [.bool g11, .slice A11 n11 c11] := da1.grown qb1 (fun e => by injection e with e; omega)
  have hyk : Box Wb1 (w1.heap.size + 1) [.bool g21, .slice A21 n21 c21] := db1
  have hb1 : Below wA.heap.size wA Wb1 := below_then HB1.out hbk
  have HX1 : Hid (IntB w.heap.size Wb1 (.agg #[.bool g11, .slice A11 n11 c11]) x1 K) := Lib.hid (HP1.out.1.grow hbk)
  have HY1 : Hid (IntB w.heap.size Wb1 (.agg #[.bool g21, .slice A21 n21 c21]) y1 K) := Lib.hid (HP1.out.2.grow hbk)
  have HG1 : Hid (wA.heap.size ≤ w1.heap.size) := Lib.hid HB1.out.size
  obtain ⟨G1, hg⟩ : ∃ n, w1.heap.size = n := ⟨_, rfl⟩
  have hw' := Wb1.heap.size
  clear hw'
  rw [hg] at hxk hyk HG1 ⊢
  have HH1 := Lib.hid (And.intro hxk hyk)
  clear hxk hyk hbk hg da1 db1 qa1 qb1 HP1 HB1
  have HB1 := Lib.hid hb1
  clear hb1
  go_upto_region 3 with (first
    | ((with_reducible show wpList _ _ _ (Oper.mk _ (.load 28 _) _ _ _ _ :: _) _ _); refine wp_ld rfl 28 _ rfl (w.heap.size + 1) 0 rfl (HA.out.2.2.1.keep HB1.out) [.bool sb, .slice A2 nb cb, .slice B2 mb db] (fun j v h => by rcases j with _ | _ | _ | j <;> simp at h ⊢ <;> exact h) dsR HRR.out.1 HRR.out.2 size_Rat ?_)
    | (go_at_call 60; (with_reducible refine (CP2.out _ (below_then HA.out.1 HB1.out)).mono ?_); rintro e2 w2 ⟨g12, A12, n12, c12, g22, A22, n22, c22, rfl, hx, hy, hb⟩; have HP2 := Lib.hid (And.intro hx hy); have HB2 := Lib.hid hb; clear hx hy hb)
    | ((with_reducible show wpList _ _ _ (Oper.mk none (.store 26 (.tmp 7) _) _ _ _ _ :: _) _ _); refine wp_st rfl 26 _ _ rfl (w2.heap.size) 0 [_, _] rfl rfl size_Int rfl ((Box.new rfl).alloc _) (Nat.le_refl _) rfl ?_; intro Wa2 da2 qa2)
    | ((with_reducible show wpList _ _ _ (Oper.mk none (.store 26 (.tmp 8) _) _ _ _ _ :: _) _ _); refine wp_st rfl 26 _ _ rfl (w2.heap.size + 1) 0 [_, _] rfl rfl size_Int rfl ((Box.new (by simp)).grown qa2 (fun e => by injection e with e; omega)) (Nat.le_refl _) rfl ?_; intro Wb2 db2 qb2))
  have hbk : Below w2.heap.size w2 Wb2 := put_facts (put_facts (((Below.refl _ _).alloc (Nat.le_refl _) _).alloc (by simp) _) (Nat.le_refl _) qa2) (by omega) qb2
  have hxk : Box Wb2 w2.heap.size [.bool g12, .slice A12 n12 c12] := da2.grown qb2 (fun e => by injection e with e; omega)
  have hyk : Box Wb2 (w2.heap.size + 1) [.bool g22, .slice A22 n22 c22] := db2
  have hb2 : Below Wb1.heap.size Wb1 Wb2 := below_then HB2.out hbk
  have HX2 : Hid (IntB w.heap.size Wb2 (.agg #[.bool g12, .slice A12 n12 c12]) x2 M) := Lib.hid (HP2.out.1.grow hbk)
  have HY2 : Hid (IntB w.heap.size Wb2 (.agg #[.bool g22, .slice A22 n22 c22]) y2 M) := Lib.hid (HP2.out.2.grow hbk)
  have HG2 : Hid (Wb1.heap.size ≤ w2.heap.size) := Lib.hid HB2.out.size
  obtain ⟨G2, hg⟩ : ∃ n, w2.heap.size = n := ⟨_, rfl⟩
  have hw' := Wb2.heap.size
  clear hw'
  rw [hg] at hxk hyk HG2 ⊢
  have HH2 := Lib.hid (And.intro hxk hyk)
  clear hxk hyk hbk hg da2 db2 qa2 qb2 HP2 HB2
  have HB2 := Lib.hid (below_then HB1.out hb2)
  have HE1 : Hid (Box Wb2 G1 [.bool g11, .slice A11 n11 c11] ∧ Box Wb2 (G1 + 1) [.bool g21, .slice A21 n21 c21]) := Lib.hid ⟨HH1.out.1.keep hb2, HH1.out.2.keep hb2⟩
  have HI1 := Lib.hid (HX1.out.grow hb2)
  have HJ1 := Lib.hid (HY1.out.grow hb2)
  clear hb2 CP1 CP2 HB1 HX1 HY1 HH1
  have CM1 : Hid (∀ w1, Below Wb2.heap.size Wb2 w1 → Calls Try.prog 62 #[.agg #[.bool g11, .slice A11 n11 c11], .agg #[.bool g22, .slice A22 n22 c22]] w1 (RetI w1 (x1 * y2) (K + M))) := Lib.hid fun w1 hb => r2_Mul _ _ x1 y2 K M _ _ w1 (HI1.out.grow hb) (HY2.out.grow hb) h9 h8
  have CM2 : Hid (∀ w1, Below Wb2.heap.size Wb2 w1 → Calls Try.prog 62 #[.agg #[.bool g12, .slice A12 n12 c12], .agg #[.bool g21, .slice A21 n21 c21]] w1 (RetI w1 (x2 * y1) (M + K))) := Lib.hid fun w1 hb => r2_Mul _ _ x2 y1 M K _ _ w1 (HX2.out.grow hb) (HJ1.out.grow hb) h8 h9
  have CM3 : Hid (∀ w1, Below Wb2.heap.size Wb2 w1 → Calls Try.prog 62 #[.agg #[.bool g21, .slice A21 n21 c21], .agg #[.bool g22, .slice A22 n22 c22]] w1 (RetI w1 (y1 * y2) (K + M))) := Lib.hid fun w1 hb => r2_Mul _ _ y1 y2 K M _ _ w1 (HJ1.out.grow hb) (HY2.out.grow hb) h9 h8
  have CA : Hid (∀ v' u' w1, IntO Wb2.heap.size w1 v' (x1 * y2) (K + M) → IntO Wb2.heap.size w1 u' (x2 * y1) (M + K) → Calls Try.prog 74 #[v', u'] w1 (RetI w1 (x1 * y2 + x2 * y1) (K + M + 1))) := Lib.hid fun v' u' w1 h1 h2 => (r2_Add v' u' _ _ _ _ w.heap.size w.heap.size w1 h1.intB h2.intB (by omega) (by omega)).mono fun _ _ ⟨v, e, h, hb⟩ => ⟨v, e, h.le (by omega), hb⟩
  have CR : Hid (∀ v' u' w1, IntO Wb2.heap.size w1 v' (x1 * y2 + x2 * y1) (K + M + 1) → IntO Wb2.heap.size w1 u' (y1 * y2) (K + M) → Calls Try.prog 73 #[v', u'] w1 (RetRN w1 (x1 * y2 + x2 * y1) (y1 * y2) (K + M + 1))) := Lib.hid fun v' u' w1 h1 h2 => (r3_reduce v' u' _ _ _ _ w.heap.size w.heap.size w1 h1.intB h2.intB (by omega) (by omega) (by omega) (by omega)).mono fun _ _ h => h.le (by omega)
  refine wp_region_grow7 (fun i => Nat.blt i 11) (fun _ => false) (fun w9 => Below Wb2.heap.size Wb2 w9) (gT [.v (.agg #[.bool g11, .slice A11 n11 c11]), .v (.agg #[.bool g22, .slice A22 n22 c22]), .int (x1 * y2) (K + M), .v (.agg #[.bool g12, .slice A12 n12 c12]), .v (.agg #[.bool g21, .slice A21 n21 c21]), .int (x2 * y1) (M + K), .int (x1 * y2 + x2 * y1) (K + M + 1), .v (.agg #[.bool g21, .slice A21 n21 c21]), .v (.agg #[.bool g22, .slice A22 n22 c22]), .int (y1 * y2) (K + M), .gen (RN (x1 * y2 + x2 * y1) (y1 * y2) (K + M + 1)) RN_keep]) (fun a b => Below a.heap.size a b) (dT Wb2.heap.size [.v (.agg #[.bool g11, .slice A11 n11 c11]), .v (.agg #[.bool g22, .slice A22 n22 c22]), .int (x1 * y2) (K + M), .v (.agg #[.bool g12, .slice A12 n12 c12]), .v (.agg #[.bool g21, .slice A21 n21 c21]), .int (x2 * y1) (M + K), .int (x1 * y2 + x2 * y1) (K + M + 1), .v (.agg #[.bool g21, .slice A21 n21 c21]), .v (.agg #[.bool g22, .slice A22 n22 c22]), .int (y1 * y2) (K + M), .gen (RN (x1 * y2 + x2 * y1) (y1 * y2) (K + M + 1)) RN_keep]) (by kernel_rfl) (by kernel_rfl) (Below.refl _ _).drew (fun j x a b h1 h2 => ⟨below_then h1 h2.1, fun i _ v => dT_keep h2.1 i v, Below.refl _ _, fun w0 h => below_then h h2.1⟩) (fun j v w h => by cases h) ?_ (fun j o _ _ h => by cases h) ?_
  · refine ⟨?_, ?_, ?_, ?_, ?_, ?_, ?_, ?_, ?_, ?_, ?_, trivial⟩
    all_goals
      intro vs w9 hp hF
      have HP := Lib.hid hp
      clear hp
      simp [depsB, Region.binds, dT] at hF
      simp [stL, depsB, Region.binds, Act.put, hF]
    · (obtain ⟨dI, hI1, hI2⟩ := row_Int; refine wp_ld rfl 26 _ rfl (G1) 0 rfl (HE1.out.1.keep HP.out) [.bool g11, .slice A11 n11 c11] (fun j v h => by rcases j with _ | _ | _ | _ | j <;> simp at h ⊢ <;> exact h) dI hI1 hI2 size_Int ?_; go_wp2_with fail; exact ⟨rfl, Below.refl _ _, nbx rfl⟩)
    · (obtain ⟨dI, hI1, hI2⟩ := row_Int; refine wp_ld rfl 26 _ rfl (G2 + 1) 0 rfl (HH2.out.2.keep HP.out) [.bool g22, .slice A22 n22 c22] (fun j v h => by rcases j with _ | _ | _ | _ | j <;> simp at h ⊢ <;> exact h) dI hI1 hI2 size_Int ?_; go_wp2_with fail; exact ⟨rfl, Below.refl _ _, nbx rfl⟩)
    · go_wp2_with (go_at_call 62; (with_reducible refine (CM1.out _ HP.out).mono ?_); rintro e1 w1' ⟨v1, rfl, o1, hb1⟩)
      exact ⟨IntO.base o1 HP.out.size, hb1, nbx rfl⟩
    · (obtain ⟨dI, hI1, hI2⟩ := row_Int; refine wp_ld rfl 26 _ rfl (G2) 0 rfl (HH2.out.1.keep HP.out) [.bool g12, .slice A12 n12 c12] (fun j v h => by rcases j with _ | _ | _ | _ | j <;> simp at h ⊢ <;> exact h) dI hI1 hI2 size_Int ?_; go_wp2_with fail; exact ⟨rfl, Below.refl _ _, nbx rfl⟩)
    · (obtain ⟨dI, hI1, hI2⟩ := row_Int; refine wp_ld rfl 26 _ rfl (G1 + 1) 0 rfl (HE1.out.2.keep HP.out) [.bool g21, .slice A21 n21 c21] (fun j v h => by rcases j with _ | _ | _ | _ | j <;> simp at h ⊢ <;> exact h) dI hI1 hI2 size_Int ?_; go_wp2_with fail; exact ⟨rfl, Below.refl _ _, nbx rfl⟩)
    · go_wp2_with (go_at_call 62; (with_reducible refine (CM2.out _ HP.out).mono ?_); rintro e1 w1' ⟨v1, rfl, o1, hb1⟩)
      exact ⟨IntO.base o1 HP.out.size, hb1, nbx rfl⟩
    · obtain ⟨ha, hb⟩ := hF
      obtain ⟨ga, Aa, ca', la, ea, ha⟩ := ha
      obtain ⟨gb, Ab, cb', lb, eb, hb⟩ := hb
      have HA2 : Hid (IntO Wb2.heap.size w9 (.agg #[.bool ga, .slice Aa la.length ca']) (x1 * y2) (K + M)) := Lib.hid ⟨_, _, _, _, rfl, ha⟩
      have HB2' : Hid (IntO Wb2.heap.size w9 (.agg #[.bool gb, .slice Ab lb.length cb']) (x2 * y1) (M + K)) := Lib.hid ⟨_, _, _, _, rfl, hb⟩
      clear ha hb
      simp only [ea, eb]
      go_wp2_with (go_at_call 74; (with_reducible refine (CA.out _ _ _ HA2.out HB2'.out).mono ?_); rintro e1 w1' ⟨v1, rfl, o1, hb1⟩)
      exact ⟨IntO.base o1 HP.out.size, hb1, nbx rfl⟩
    · (obtain ⟨dI, hI1, hI2⟩ := row_Int; refine wp_ld rfl 26 _ rfl (G1 + 1) 0 rfl (HE1.out.2.keep HP.out) [.bool g21, .slice A21 n21 c21] (fun j v h => by rcases j with _ | _ | _ | _ | j <;> simp at h ⊢ <;> exact h) dI hI1 hI2 size_Int ?_; go_wp2_with fail; exact ⟨rfl, Below.refl _ _, nbx rfl⟩)
    · (obtain ⟨dI, hI1, hI2⟩ := row_Int; refine wp_ld rfl 26 _ rfl (G2 + 1) 0 rfl (HH2.out.2.keep HP.out) [.bool g22, .slice A22 n22 c22] (fun j v h => by rcases j with _ | _ | _ | _ | j <;> simp at h ⊢ <;> exact h) dI hI1 hI2 size_Int ?_; go_wp2_with fail; exact ⟨rfl, Below.refl _ _, nbx rfl⟩)
    · go_wp2_with (go_at_call 62; (with_reducible refine (CM3.out _ HP.out).mono ?_); rintro e1 w1' ⟨v1, rfl, o1, hb1⟩)
      exact ⟨IntO.base o1 HP.out.size, hb1, nbx rfl⟩
    · obtain ⟨ha, hb⟩ := hF
      obtain ⟨ga, Aa, ca', la, ea, ha⟩ := ha
      obtain ⟨gb, Ab, cb', lb, eb, hb⟩ := hb
      have HA2 : Hid (IntO Wb2.heap.size w9 (.agg #[.bool ga, .slice Aa la.length ca']) (x1 * y2 + x2 * y1) (K + M + 1)) := Lib.hid ⟨_, _, _, _, rfl, ha⟩
      have HB2' : Hid (IntO Wb2.heap.size w9 (.agg #[.bool gb, .slice Ab lb.length cb']) (y1 * y2) (K + M)) := Lib.hid ⟨_, _, _, _, rfl, hb⟩
      clear ha hb
      simp only [ea, eb]
      go_wp2_with (go_at_call 73; (with_reducible refine (CR.out _ _ _ HA2.out HB2'.out).mono ?_); rintro e1 w1' ⟨v1, pp, qq, rfl, hn, hq, hz, h1, hb1⟩)
      exact ⟨⟨pp, qq, hn.base HP.out.size, hq, hz, h1⟩, hb1, nbx rfl⟩
  intro vs w9 hp hF hpr
  obtain ⟨pp, qq, hn, hr⟩ : RN (x1 * y2 + x2 * y1) (y1 * y2) (K + M + 1) Wb2.heap.size w9 (vs 10) := hF 10 (by decide) rfl
  have HN := Lib.hid hn
  obtain ⟨g7, A7, n7, c7, B7, m7, d7, e9⟩ := hn.form
  rw [e9] at HN
  have HR2 := Lib.hid hr
  have HBE := Lib.hid hp
  clear hF hpr hn hr hp
  show wpList Try.prog _ _ [_] _ _
  simp [stL, Act.put, e9]
  refine wp_st rfl 28 _ _ rfl (w.heap.size + 1 + 1) 0 [_, _, _] rfl rfl size_Rat rfl ((HA.out.2.2.2.keep HB2.out).keep HBE.out) (Nat.le_refl _) rfl ?_
  intro W9 c9 g9
  go_wp2_with fail
  have hb := below_then HB2.out HBE.out
  have hW := put_facts (g := w.heap.size + 1 + 1) (below_then HA.out.1 hb) (by omega) g9
  have hn := (HN.out.away g9 (Nat.lt_of_lt_of_le HA.out.2.2.2.1 HB2.out.size)).base (b' := w.heap.size) (below_then HA.out.1 HB2.out).size
  refine bodyPost_ret (resC rfl _ _ W9 (g := w.heap.size + 1 + 1) rfl (res_box 28 c9 dsR HRR.out.1 HRR.out.2 size_Rat)) rfl ?_
  exact ⟨_, pp, qq, rfl, hn, HR2.out.1, HR2.out.2.1, HR2.out.2.2, hW⟩
set_option maxRecDepth 100000 in
set_option maxHeartbeats 4000000 in
theorem r3_CompareE (v u : Value) (x1 y1 x2 y2 : Int) (K M : Nat) (w : World) (hv : IsRat v) (hu : IsRat u) (C1 : ∀ w1, Below w.heap.size w w1 → Calls Try.prog 60 #[v] w1 (RetPT w.heap.size w1 x1 y1 K)) (C2 : ∀ w1, Below w.heap.size w w1 → Calls Try.prog 60 #[u] w1 (RetPT w.heap.size w1 x2 y2 M)) (hK : 1 ≤ K) (hM : 1 ≤ M) (h9 : K ≤ 400000) (h8 : M ≤ 400000) : Calls Try.prog 13 #[v, u] w (fun e w' => e = .returned (.int .i64 (cmpI (x1 * y2) (x2 * y1))) ∧ Below w.heap.size w w') := by
  obtain ⟨sa, A, na, ca, B, ma, da, rfl⟩ := hv
  obtain ⟨sb, A2, nb, cb, B2, mb, db, rfl⟩ := hu
  have CP1 := Lib.hid C1
  have CP2 := Lib.hid C2
  have h7 : K + M + 1 ≤ 1000000 := by omega
  have h9 : K ≤ 1000000 := by omega
  have h8 : M ≤ 1000000 := by omega
  clear C1 C2
  obtain ⟨dI, hI1, hI2⟩ := row_Int
  have HI := Lib.hid (And.intro hI1 hI2)
  clear hI1 hI2
  obtain ⟨dsR, hR1, hR2⟩ := row_Rat
  have HRR := Lib.hid (And.intro hR1 hR2)
  clear hR1 hR2
  go_enter Try.func13, Try.ntmps13
  go_upto_region 1 with fail
  have hB0 : Below w.heap.size w ((w.alloc (.cells #[.bool sa, .slice A na ca, .slice B ma da] 28)).alloc (.cells #[.bool sb, .slice A2 nb cb, .slice B2 mb db] 28)) := (((Below.refl _ _).alloc (Nat.le_refl _) _).alloc (by simp; try omega) _)
  have bx0 : Box ((w.alloc (.cells #[.bool sa, .slice A na ca, .slice B ma da] 28)).alloc (.cells #[.bool sb, .slice A2 nb cb, .slice B2 mb db] 28)) (w.heap.size) [.bool sa, .slice A na ca, .slice B ma da] := ((Box.new (by simp)).alloc _)
  have bx1 : Box ((w.alloc (.cells #[.bool sa, .slice A na ca, .slice B ma da] 28)).alloc (.cells #[.bool sb, .slice A2 nb cb, .slice B2 mb db] 28)) (w.heap.size + 1) [.bool sb, .slice A2 nb cb, .slice B2 mb db] := (Box.new (by simp))
  generalize (w.alloc (.cells #[.bool sa, .slice A na ca, .slice B ma da] 28)).alloc (.cells #[.bool sb, .slice A2 nb cb, .slice B2 mb db] 28) = wA at hB0 bx0 bx1 ⊢
  have HA := Lib.hid (And.intro hB0 (And.intro bx0 bx1))
  clear hB0 bx0 bx1
  go_upto_region 2 with (first
    | ((with_reducible show wpList _ _ _ (Oper.mk _ (.load 28 _) _ _ _ _ :: _) _ _); refine wp_ld rfl 28 _ rfl (w.heap.size) 0 rfl (HA.out.2.1) [.bool sa, .slice A na ca, .slice B ma da] (fun j v h => by rcases j with _ | _ | _ | j <;> simp at h ⊢ <;> exact h) dsR HRR.out.1 HRR.out.2 size_Rat ?_)
    | (go_at_call 60; (with_reducible refine (CP1.out _ HA.out.1).mono ?_); rintro e1 w1 ⟨g11, A11, n11, c11, g21, A21, n21, c21, rfl, hx, hy, hb⟩; have HP1 := Lib.hid (And.intro hx hy); have HB1 := Lib.hid hb; clear hx hy hb)
    | ((with_reducible show wpList _ _ _ (Oper.mk none (.store 26 (.tmp 5) _) _ _ _ _ :: _) _ _); refine wp_st rfl 26 _ _ rfl (w1.heap.size) 0 [_, _] rfl rfl size_Int rfl ((Box.new rfl).alloc _) (Nat.le_refl _) rfl ?_; intro Wa1 da1 qa1)
    | ((with_reducible show wpList _ _ _ (Oper.mk none (.store 26 (.tmp 6) _) _ _ _ _ :: _) _ _); refine wp_st rfl 26 _ _ rfl (w1.heap.size + 1) 0 [_, _] rfl rfl size_Int rfl ((Box.new (by simp)).grown qa1 (fun e => by injection e with e; omega)) (Nat.le_refl _) rfl ?_; intro Wb1 db1 qb1))
  have hbk : Below w1.heap.size w1 Wb1 := put_facts (put_facts (((Below.refl _ _).alloc (Nat.le_refl _) _).alloc (by simp) _) (Nat.le_refl _) qa1) (by omega) qb1
  have hxk : Box Wb1 w1.heap.size [.bool g11, .slice A11 n11 c11] := da1.grown qb1 (fun e => by injection e with e; omega)
  have hyk : Box Wb1 (w1.heap.size + 1) [.bool g21, .slice A21 n21 c21] := db1
  have hb1 : Below wA.heap.size wA Wb1 := below_then HB1.out hbk
  have HX1 : Hid (IntB w.heap.size Wb1 (.agg #[.bool g11, .slice A11 n11 c11]) x1 K) := Lib.hid (HP1.out.1.grow hbk)
  have HY1 : Hid (IntB w.heap.size Wb1 (.agg #[.bool g21, .slice A21 n21 c21]) y1 K) := Lib.hid (HP1.out.2.grow hbk)
  have HG1 : Hid (wA.heap.size ≤ w1.heap.size) := Lib.hid HB1.out.size
  obtain ⟨G1, hg⟩ : ∃ n, w1.heap.size = n := ⟨_, rfl⟩
  have hw' := Wb1.heap.size
  clear hw'
  rw [hg] at hxk hyk HG1 ⊢
  have HH1 := Lib.hid (And.intro hxk hyk)
  clear hxk hyk hbk hg da1 db1 qa1 qb1 HP1 HB1
  have HB1 := Lib.hid hb1
  clear hb1
  go_upto_region 3 with (first
    | ((with_reducible show wpList _ _ _ (Oper.mk _ (.load 28 _) _ _ _ _ :: _) _ _); refine wp_ld rfl 28 _ rfl (w.heap.size + 1) 0 rfl (HA.out.2.2.keep HB1.out) [.bool sb, .slice A2 nb cb, .slice B2 mb db] (fun j v h => by rcases j with _ | _ | _ | j <;> simp at h ⊢ <;> exact h) dsR HRR.out.1 HRR.out.2 size_Rat ?_)
    | (go_at_call 60; (with_reducible refine (CP2.out _ (below_then HA.out.1 HB1.out)).mono ?_); rintro e2 w2 ⟨g12, A12, n12, c12, g22, A22, n22, c22, rfl, hx, hy, hb⟩; have HP2 := Lib.hid (And.intro hx hy); have HB2 := Lib.hid hb; clear hx hy hb)
    | ((with_reducible show wpList _ _ _ (Oper.mk none (.store 26 (.tmp 7) _) _ _ _ _ :: _) _ _); refine wp_st rfl 26 _ _ rfl (w2.heap.size) 0 [_, _] rfl rfl size_Int rfl ((Box.new rfl).alloc _) (Nat.le_refl _) rfl ?_; intro Wa2 da2 qa2)
    | ((with_reducible show wpList _ _ _ (Oper.mk none (.store 26 (.tmp 8) _) _ _ _ _ :: _) _ _); refine wp_st rfl 26 _ _ rfl (w2.heap.size + 1) 0 [_, _] rfl rfl size_Int rfl ((Box.new (by simp)).grown qa2 (fun e => by injection e with e; omega)) (Nat.le_refl _) rfl ?_; intro Wb2 db2 qb2))
  have hbk : Below w2.heap.size w2 Wb2 := put_facts (put_facts (((Below.refl _ _).alloc (Nat.le_refl _) _).alloc (by simp) _) (Nat.le_refl _) qa2) (by omega) qb2
  have hxk : Box Wb2 w2.heap.size [.bool g12, .slice A12 n12 c12] := da2.grown qb2 (fun e => by injection e with e; omega)
  have hyk : Box Wb2 (w2.heap.size + 1) [.bool g22, .slice A22 n22 c22] := db2
  have hb2 : Below Wb1.heap.size Wb1 Wb2 := below_then HB2.out hbk
  have HX2 : Hid (IntB w.heap.size Wb2 (.agg #[.bool g12, .slice A12 n12 c12]) x2 M) := Lib.hid (HP2.out.1.grow hbk)
  have HY2 : Hid (IntB w.heap.size Wb2 (.agg #[.bool g22, .slice A22 n22 c22]) y2 M) := Lib.hid (HP2.out.2.grow hbk)
  have HG2 : Hid (Wb1.heap.size ≤ w2.heap.size) := Lib.hid HB2.out.size
  obtain ⟨G2, hg⟩ : ∃ n, w2.heap.size = n := ⟨_, rfl⟩
  have hw' := Wb2.heap.size
  clear hw'
  rw [hg] at hxk hyk HG2 ⊢
  have HH2 := Lib.hid (And.intro hxk hyk)
  clear hxk hyk hbk hg da2 db2 qa2 qb2 HP2 HB2
  have HB2 := Lib.hid (below_then HB1.out hb2)
  have HE1 : Hid (Box Wb2 G1 [.bool g11, .slice A11 n11 c11] ∧ Box Wb2 (G1 + 1) [.bool g21, .slice A21 n21 c21]) := Lib.hid ⟨HH1.out.1.keep hb2, HH1.out.2.keep hb2⟩
  have HI1 := Lib.hid (HX1.out.grow hb2)
  have HJ1 := Lib.hid (HY1.out.grow hb2)
  clear hb2 CP1 CP2 HB1 HX1 HY1 HH1
  have CM1 : Hid (∀ w1, Below Wb2.heap.size Wb2 w1 → Calls Try.prog 62 #[.agg #[.bool g11, .slice A11 n11 c11], .agg #[.bool g22, .slice A22 n22 c22]] w1 (RetI w1 (x1 * y2) (K + M))) := Lib.hid fun w1 hb => r2_Mul _ _ x1 y2 K M _ _ w1 (HI1.out.grow hb) (HY2.out.grow hb) h9 h8
  have CM2 : Hid (∀ w1, Below Wb2.heap.size Wb2 w1 → Calls Try.prog 62 #[.agg #[.bool g12, .slice A12 n12 c12], .agg #[.bool g21, .slice A21 n21 c21]] w1 (RetI w1 (x2 * y1) (M + K))) := Lib.hid fun w1 hb => r2_Mul _ _ x2 y1 M K _ _ w1 (HX2.out.grow hb) (HJ1.out.grow hb) h8 h9
  have CC : Hid (∀ v' u' w1, IntO Wb2.heap.size w1 v' (x1 * y2) (K + M) → IntO Wb2.heap.size w1 u' (x2 * y1) (M + K) → Calls Try.prog 61 #[v', u'] w1 fun e w' => e = .returned (.int .i64 (cmpI (x1 * y2) (x2 * y1))) ∧ Below w1.heap.size w1 w') := Lib.hid fun v' u' w1 h1 h2 => r2_Compare v' u' _ _ _ _ w.heap.size w.heap.size w1 h1.intB h2.intB (by omega) (by omega)
  refine wp_region_grow7 (fun i => Nat.blt i 7) (fun _ => false) (fun w9 => Below Wb2.heap.size Wb2 w9) (gT [.v (.agg #[.bool g11, .slice A11 n11 c11]), .v (.agg #[.bool g22, .slice A22 n22 c22]), .int (x1 * y2) (K + M), .v (.agg #[.bool g12, .slice A12 n12 c12]), .v (.agg #[.bool g21, .slice A21 n21 c21]), .int (x2 * y1) (M + K), .v (.int .i64 (cmpI (x1 * y2) (x2 * y1)))]) (fun a b => Below a.heap.size a b) (dT Wb2.heap.size [.v (.agg #[.bool g11, .slice A11 n11 c11]), .v (.agg #[.bool g22, .slice A22 n22 c22]), .int (x1 * y2) (K + M), .v (.agg #[.bool g12, .slice A12 n12 c12]), .v (.agg #[.bool g21, .slice A21 n21 c21]), .int (x2 * y1) (M + K), .v (.int .i64 (cmpI (x1 * y2) (x2 * y1)))]) (by kernel_rfl) (by kernel_rfl) (Below.refl _ _).drew (fun j x a b h1 h2 => ⟨below_then h1 h2.1, fun i _ v => dT_keep h2.1 i v, Below.refl _ _, fun w0 h => below_then h h2.1⟩) (fun j v w h => by cases h) ?_ (fun j o _ _ h => by cases h) ?_
  · refine ⟨?_, ?_, ?_, ?_, ?_, ?_, ?_, trivial⟩
    all_goals
      intro vs w9 hp hF
      have HP := Lib.hid hp
      clear hp
      simp [depsB, Region.binds, dT] at hF
      simp [stL, depsB, Region.binds, Act.put, hF]
    · (obtain ⟨dI, hI1, hI2⟩ := row_Int; refine wp_ld rfl 26 _ rfl (G1) 0 rfl (HE1.out.1.keep HP.out) [.bool g11, .slice A11 n11 c11] (fun j v h => by rcases j with _ | _ | _ | _ | j <;> simp at h ⊢ <;> exact h) dI hI1 hI2 size_Int ?_; go_wp2_with fail; exact ⟨rfl, Below.refl _ _, nbx rfl⟩)
    · (obtain ⟨dI, hI1, hI2⟩ := row_Int; refine wp_ld rfl 26 _ rfl (G2 + 1) 0 rfl (HH2.out.2.keep HP.out) [.bool g22, .slice A22 n22 c22] (fun j v h => by rcases j with _ | _ | _ | _ | j <;> simp at h ⊢ <;> exact h) dI hI1 hI2 size_Int ?_; go_wp2_with fail; exact ⟨rfl, Below.refl _ _, nbx rfl⟩)
    · go_wp2_with (go_at_call 62; (with_reducible refine (CM1.out _ HP.out).mono ?_); rintro e1 w1' ⟨v1, rfl, o1, hb1⟩)
      exact ⟨IntO.base o1 HP.out.size, hb1, nbx rfl⟩
    · (obtain ⟨dI, hI1, hI2⟩ := row_Int; refine wp_ld rfl 26 _ rfl (G2) 0 rfl (HH2.out.1.keep HP.out) [.bool g12, .slice A12 n12 c12] (fun j v h => by rcases j with _ | _ | _ | _ | j <;> simp at h ⊢ <;> exact h) dI hI1 hI2 size_Int ?_; go_wp2_with fail; exact ⟨rfl, Below.refl _ _, nbx rfl⟩)
    · (obtain ⟨dI, hI1, hI2⟩ := row_Int; refine wp_ld rfl 26 _ rfl (G1 + 1) 0 rfl (HE1.out.2.keep HP.out) [.bool g21, .slice A21 n21 c21] (fun j v h => by rcases j with _ | _ | _ | _ | j <;> simp at h ⊢ <;> exact h) dI hI1 hI2 size_Int ?_; go_wp2_with fail; exact ⟨rfl, Below.refl _ _, nbx rfl⟩)
    · go_wp2_with (go_at_call 62; (with_reducible refine (CM2.out _ HP.out).mono ?_); rintro e1 w1' ⟨v1, rfl, o1, hb1⟩)
      exact ⟨IntO.base o1 HP.out.size, hb1, nbx rfl⟩
    · obtain ⟨ha, hb⟩ := hF
      obtain ⟨ga, Aa, ca', la, ea, ha⟩ := ha
      obtain ⟨gb, Ab, cb', lb, eb, hb⟩ := hb
      have HA2 : Hid (IntO Wb2.heap.size w9 (.agg #[.bool ga, .slice Aa la.length ca']) (x1 * y2) (K + M)) := Lib.hid ⟨_, _, _, _, rfl, ha⟩
      have HB2' : Hid (IntO Wb2.heap.size w9 (.agg #[.bool gb, .slice Ab lb.length cb']) (x2 * y1) (M + K)) := Lib.hid ⟨_, _, _, _, rfl, hb⟩
      clear ha hb
      simp only [ea, eb]
      go_wp2_with (go_at_call 61; (with_reducible refine (CC.out _ _ _ HA2.out HB2'.out).mono ?_); rintro e1 w1' ⟨rfl, hb1⟩)
      exact ⟨rfl, hb1, nbx rfl⟩
  intro vs w9 hp hF hpr
  have e6 : vs 6 = .int .i64 (cmpI (x1 * y2) (x2 * y1)) := hF 6 (by decide) rfl
  have HBE := Lib.hid hp
  clear hF hpr hp
  show wpList Try.prog _ _ [_] _ _
  simp [stL, Act.put, e6]
  go_wp2_with fail
  go_ret
  exact ⟨rfl, below_then HA.out.1 (below_then HB2.out HBE.out)⟩
theorem RetPT.more {b b' : Nat} {w w' : World} {x y : Int} {K : Nat} {e : Ending} (h : RetPT b w x y K e w') (hb : b ≤ b') : RetPT b' w x y K e w' := by
  obtain ⟨g1, A1, n1, c1, g2, A2, n2, c2, e, h1, h2, h3⟩ := h
  exact ⟨_, _, _, _, _, _, _, _, e, h1.more hb, h2.more hb, h3⟩
theorem r3_Add (v u : Value) (x y : Rat) (K M : Nat) (w : World) (hx : RatA w v x K) (hy : RatA w u y M) (hK : 1 ≤ K) (hM : 1 ≤ M) (h9 : K ≤ 400000) (h8 : M ≤ 400000) : Calls Try.prog 28 #[v, u] w (RetQ w (x + y) (K + M + 1)) := by
  obtain ⟨x1, y1, p1, rfl, c1⟩ := r3_parts v x K w hx hK (by omega)
  obtain ⟨x2, y2, p2, rfl, c2⟩ := r3_parts u y M w hy hM (by omega)
  rw [rat_sum p1 p2]
  exact (r3_AddE v u x1 y1 x2 y2 K M w hx.isRat hy.isRat c1 c2 hK hM h9 h8).mono fun _ _ h => h.retQ
theorem cmp_frac {x1 y1 x2 y2 : Int} (h1 : 0 < y1) (h2 : 0 < y2) : ((x1 : Rat) / (y1 : Rat) < (x2 : Rat) / (y2 : Rat) ↔ x1 * y2 < x2 * y1) := by
  rw [Rat.div_lt_iff (cast_lt h1), Rat.div_def, Rat.mul_assoc, Rat.mul_comm (y2 : Rat)⁻¹, ← Rat.mul_assoc, ← Rat.div_def, Rat.lt_div_iff (cast_lt h2), ← Rat.intCast_mul, ← Rat.intCast_mul, Rat.intCast_lt_intCast]
def cmpR (x y : Rat) : Int := if x < y then -1 else if x = y then 0 else 1
theorem cmp_rat {x1 y1 x2 y2 : Int} (h1 : 0 < y1) (h2 : 0 < y2) : cmpI (x1 * y2) (x2 * y1) = cmpR ((x1 : Rat) / (y1 : Rat)) ((x2 : Rat) / (y2 : Rat)) := by
  unfold cmpI cmpR
  have a := cmp_frac (x1 := x1) (x2 := x2) h1 h2
  have b := cmp_frac (x1 := x2) (x2 := x1) h2 h1
  by_cases c : x1 * y2 < x2 * y1
  · rw [if_pos c, if_pos (a.2 c)]
  · rw [if_neg c, if_neg (fun h => c (a.1 h))]
    by_cases d : x1 * y2 = x2 * y1
    · rw [if_pos d, if_pos]
      exact Rat.le_antisymm (Rat.not_lt.1 (fun h => by have := b.1 h; omega)) (Rat.not_lt.1 (fun h => by have := a.1 h; omega))
    · rw [if_neg d, if_neg]
      intro e
      have : (x2 : Rat) / (y2 : Rat) < (x1 : Rat) / (y1 : Rat) := b.2 (by omega)
      rw [e] at this
      exact absurd this Rat.lt_irrefl
theorem r3_Compare (v u : Value) (x y : Rat) (K M : Nat) (w : World) (hx : RatA w v x K) (hy : RatA w u y M) (hK : 1 ≤ K) (hM : 1 ≤ M) (h9 : K ≤ 400000) (h8 : M ≤ 400000) : Calls Try.prog 13 #[v, u] w fun e w' => e = .returned (.int .i64 (cmpR x y)) ∧ Below w.heap.size w w' := by
  obtain ⟨x1, y1, p1, rfl, c1⟩ := r3_parts v x K w hx hK (by omega)
  obtain ⟨x2, y2, p2, rfl, c2⟩ := r3_parts u y M w hy hM (by omega)
  rw [← cmp_rat p1 p2]
  exact r3_CompareE v u x1 y1 x2 y2 K M w hx.isRat hy.isRat c1 c2 hK hM h9 h8
end Go.Proofs.Ytmdfgidejdiiiaa
end
section
namespace Go.Proofs.Ytmdfgidejdiiiaa
open Go.RowKit
theorem RatN.keptT {b g : Nat} {w w' : World} {v : Value} {p q : Int} {K : Nat} {t : TypeId} (h : RatN b w v p q K) (hg : w.grownBy w' (some g)) (ht : TyB w g t) (hn : t ≠ 77) : RatN b w' v p q K := by
  obtain ⟨ng, A, c, l, B, d, r, e, ⟨o, m⟩, o', m'⟩ := h
  exact ⟨ng, A, c, l, B, d, r, e, ⟨o.keptT hg ht hn, m⟩, o'.keptT hg ht hn, m'⟩
end Go.Proofs.Ytmdfgidejdiiiaa
end
