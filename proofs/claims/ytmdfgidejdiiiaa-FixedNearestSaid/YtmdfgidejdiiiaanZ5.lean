/- Package rational: Trim, Frac, Abs, Sign. Printed by gen_z5.py. -/
import Derived.Test.YtmdfgidejdiiiaanZ3toZ4
set_option linter.unusedVariables false
set_option linter.unusedSimpArgs false
namespace Go.Proofs.Ytmdfgidejdiiiaa
open Go.RowKit
theorem fld_num (b0 b1 : Bool) (A B : Option Addr) (n c m d : Nat) (w : World) : (Instr.field 113 (.agg #[.bool b0, .slice A n c, .slice B m d, .bool b1]) 0).run Try.prog w = .ok (.agg #[.bool b0, .slice A n c, .slice B m d]) w := by kernel_rfl
theorem fld_pair (b0 : Bool) (A B : Option Addr) (n c m d : Nat) (w : World) : (Instr.field 111 (.agg #[.bool b0, .slice A n c, .slice B m d]) 0).run Try.prog w = .ok (.agg #[.bool b0, .slice A n c]) w := by kernel_rfl
def sgnR (z : Rat) : Int := if z < 0 then -1 else if z = 0 then 0 else 1
def absR (z : Rat) : Rat := if z < 0 then -z else z
theorem frac_mul {p q : Int} (h : 0 < q) : (p : Rat) / (q : Rat) * (q : Rat) = (p : Rat) := by
  rw [Rat.div_def, Rat.mul_assoc, Rat.mul_comm _ (q : Rat), Rat.mul_inv_cancel _ (cast_pos h), Rat.mul_one]
theorem cast_lt {q : Int} (h : 0 < q) : (0 : Rat) < (q : Rat) := by
  have := Rat.intCast_lt_intCast.2 h
  simpa using this
theorem frac_lt {p q : Int} (h : 0 < q) : (p : Rat) / (q : Rat) < 0 ↔ p < 0 := by
  have hq := cast_lt h
  rw [Rat.div_lt_iff hq, Rat.zero_mul]
  have := Rat.intCast_lt_intCast (a := p) (b := 0)
  simpa using this
theorem frac_z {p q : Int} (h : 0 < q) : (p : Rat) / (q : Rat) = 0 ↔ p = 0 := by
  constructor
  · intro e
    have := frac_mul (p := p) h
    rw [e, Rat.zero_mul] at this
    exact (Rat.intCast_inj.1 (by simpa using this)).symm
  · rintro rfl
    simp [Rat.div_def]
theorem sgnR_frac {neg : Bool} {l r : List Int} (h : 0 < nv r) : sgnR (frac neg l r) = cmpI (sgn neg (nv l)) 0 := by
  unfold sgnR frac cmpI
  simp only [frac_lt h, frac_z h]
theorem absR_frac {neg : Bool} {l r : List Int} (hd : Dig r) (hl : Dig l) : absR (frac neg l r) = frac false l r := by
  have h0 := nv_low hl
  have h1 := nv_low hd
  by_cases hz : nv r = 0
  · rw [frac_zero hz, frac_zero hz]
    rfl
  · have hp : 0 < nv r := by omega
    unfold absR frac
    simp only [frac_lt hp]
    cases neg with
    | false => rw [if_neg (by show ¬ nv l < 0; omega)]
    | true =>
      by_cases e : nv l = 0
      · rw [if_neg (by show ¬ -nv l < 0; omega)]
        simp [sgn, e]
      · rw [if_pos (by show -nv l < 0; omega)]
        simp [sgn, Rat.div_def, Rat.intCast_neg, Rat.neg_mul]
theorem rt_OfQ (k : Int) (w : World) (hk : I64 k) : Calls Try.prog 43 #[.int .i64 k] w (RetQ w (k : Rat) 2) := by
  refine (rt_Of k w hk).mono ?_
  rintro e w' ⟨v, rfl, hq, hb⟩
  exact ⟨v, rfl, ⟨k, 1, hq.le (Nat.le_refl _) (by decide), by decide, one_div k⟩, hb⟩
theorem sgn_ne {b : Bool} {x y : Int} (h : sgn b x = y) (hy : y ≠ 0) (hx : 0 ≤ x) : 0 < x := by
  cases b <;> simp [sgn] at h <;> omega
theorem inv_neg' {x : Rat} (h : x ≠ 0) : (-x)⁻¹ = -x⁻¹ := by
  have h' : -x ≠ 0 := fun e => h (by rw [← Rat.neg_neg x, e]; rfl)
  have e1 : x⁻¹ * ((-x) * (-x)⁻¹) = x⁻¹ := by rw [Rat.mul_inv_cancel _ h', Rat.mul_one]
  rw [← Rat.mul_assoc, Rat.mul_neg, Rat.mul_comm x⁻¹, Rat.mul_inv_cancel _ h, Rat.neg_mul, Rat.one_mul] at e1
  rw [← e1, Rat.neg_neg]
theorem neg_div (a b : Int) (hb : 0 < b) : ((a : Rat) / ((-b : Int) : Rat)) = ((-a : Int) : Rat) / (b : Rat) := by
  rw [Rat.intCast_neg, Rat.intCast_neg, Rat.div_def, Rat.div_def, inv_neg' (cast_pos hb), Rat.mul_neg, Rat.neg_mul]
theorem PairB.mk {b : Nat} {w : World} {ng : Bool} {A B : Option Addr} {n c m d : Nat} {l r : List Int} {z : Rat} {K : Nat} (h1 : DigB b w A l ∧ l.length = n ∧ n ≤ c ∧ n ≤ K) (h3 : DigB b w B r ∧ r.length = m ∧ m ≤ d ∧ m ≤ K) (h0 : 0 < nv r) (hz : z = frac ng l r) : PairB b w (.agg #[.bool ng, .slice A n c, .slice B m d]) z K := ⟨_, _, _, _, _, _, _, _, _, rfl, h1, h3, h0, hz⟩
theorem IntB.mk {b : Nat} {w : World} {ng : Bool} {A : Option Addr} {n c : Nat} {l : List Int} {K : Nat} (h1 : DigB b w A l ∧ l.length = n ∧ n ≤ c ∧ n ≤ K) : IntB b w (.agg #[.bool ng, .slice A n c]) (sgn ng (nv l)) K := ⟨_, _, _, _, _, rfl, h1.1, h1.2.1, h1.2.2.1, h1.2.2.2, rfl⟩
theorem pair_of {b : Nat} {w : World} {na nb : Bool} {A1 A2 : Option Addr} {n1 c1 n2 c2 : Nat} {x y : Int} {K b1 b2 : Nat} (hy : y ≠ 0) (h1 : IntO b1 w (.agg #[.bool na, .slice A1 n1 c1]) x K) (h2 : IntO b2 w (.agg #[.bool nb, .slice A2 n2 c2]) y K) : PairB b w (.agg #[.bool (na != nb), .slice A1 n1 c1, .slice A2 n2 c2]) ((x : Rat) / (y : Rat)) K := by
  obtain ⟨g, A, c, l, e, o, n, k, s⟩ := h1
  obtain ⟨g', A', c', l', e', o', n', k', s'⟩ := h2
  simp at e e'
  obtain ⟨rfl, rfl, rfl, rfl⟩ := e
  obtain ⟨rfl, rfl, rfl, rfl⟩ := e'
  have hp := sgn_ne s' hy (nv_low o'.dig)
  refine ⟨_, _, _, _, l, _, _, _, l', rfl, ⟨o.digB, rfl, o.len.2, k⟩, ⟨o'.digB, rfl, o'.len.2, k'⟩, hp, ?_⟩
  rw [← s, ← s']
  have hne := cast_pos hp
  unfold frac
  cases na <;> cases nb <;> simp only [sgn, Bool.bne_false, Bool.bne_true, Bool.not_true, Bool.not_false, if_true, if_false, Bool.false_eq_true]
  · exact neg_div _ _ hp
  · rw [neg_div _ _ hp, Int.neg_neg]
set_option maxRecDepth 100000 in
set_option maxHeartbeats 4000000 in
theorem rt_Trim (v : Value) (z : Rat) (K : Nat) (w : World) (h : RatA w v z K) (hK : 1 ≤ K) (h9 : K ≤ 1000000) : Calls Try.prog 75 #[v] w (RetQ w z K) := by
  have CR : Hid (∀ w1, Below w.heap.size w w1 → Calls Try.prog 86 #[v] w1 (RetNum w1 z K)) := Lib.hid fun w1 hb => rt_read v z K w1 (h.grow hb) hK h9
  obtain ⟨neg, A, n, c, l, B, m, d, r, rfl, -⟩ := h
  have CL : Hid (∀ v1 w1 b, PairB b w1 v1 z K → Calls Try.prog 90 #[v1] w1 (RetQ w1 z K)) := Lib.hid fun v1 w1 b h => rt_low v1 z K b w1 h h9
  obtain ⟨dsR, hR1, hR2⟩ := row_Rat
  have HR := Lib.hid (And.intro hR1 hR2)
  clear hR1 hR2
  have hfn := @fld_num
  go_enter Try.func75, Try.ntmps75
  go_upto_region 1 with fail
  have hB0 : Below w.heap.size w ((w.alloc (.cells #[.bool neg, .slice A n c, .slice B m d] 28)).alloc (.cells #[.bool false, .slice none 0 0, .slice none 0 0] 28)) := (((Below.refl _ _).alloc (Nat.le_refl _) _).alloc (by simp; try omega) _)
  have bx0 : Box ((w.alloc (.cells #[.bool neg, .slice A n c, .slice B m d] 28)).alloc (.cells #[.bool false, .slice none 0 0, .slice none 0 0] 28)) (w.heap.size) [.bool neg, .slice A n c, .slice B m d] := ((Box.new (by simp)).alloc _)
  have bx1 : Box ((w.alloc (.cells #[.bool neg, .slice A n c, .slice B m d] 28)).alloc (.cells #[.bool false, .slice none 0 0, .slice none 0 0] 28)) (w.heap.size + 1) [.bool false, .slice none 0 0, .slice none 0 0] := (Box.new (by simp))
  generalize (w.alloc (.cells #[.bool neg, .slice A n c, .slice B m d] 28)).alloc (.cells #[.bool false, .slice none 0 0, .slice none 0 0] 28) = wA at hB0 bx0 bx1 ⊢
  have HA := Lib.hid (And.intro hB0 (And.intro bx0 bx1))
  clear hB0 bx0 bx1
  go_wp2_with (first
    | ((with_reducible show wpList _ _ _ (Oper.mk _ (.load 28 _) _ _ _ _ :: _) _ _); refine wp_ld rfl 28 _ rfl (w.heap.size) 0 rfl (HA.out.2.1) [.bool neg, .slice A n c, .slice B m d] (fun j v h => by rcases j with _ | _ | _ | j <;> simp at h ⊢ <;> exact h) dsR HR.out.1 HR.out.2 size_Rat ?_)
    | (go_at_call 86; (with_reducible refine (CR.out _ HA.out.1).mono ?_); rintro e1 w1 ⟨v1, rfl, ⟨ng1, A1, n1, c1, l1, B1, m1, d1, r1, wh1, rfl, ⟨h1, h2, h2', h2''⟩, ⟨h3, h4, h4', h4''⟩, ⟨h0, h0'⟩, hz⟩, hb1⟩; have HB1 := Lib.hid hb1; have HL1 := Lib.hid (And.intro h1 (And.intro h2 (And.intro h2' h2''))); have HM1 := Lib.hid (And.intro h3 (And.intro h4 (And.intro h4' h4''))); have H01 := Lib.hid (And.intro h0 (And.intro h0' hz)); clear h1 h2 h2' h2'' h3 h4 h4' h4'' h0 h0' hz hb1)
    | (go_at_call 90; (with_reducible refine (CL.out _ _ wA.heap.size (PairB.mk HL1.out HM1.out H01.out.1 H01.out.2.2)).mono ?_); rintro e2 w2 ⟨v2, rfl, hq, hb2⟩; have HQ := Lib.hid hq; obtain ⟨g2, A2, n2, c2, B2, m2, d2, rfl⟩ := hq.form; have HB2 := Lib.hid hb2; clear hq hb2)
    | ((with_reducible show wpList _ _ _ (Oper.mk none (.store 28 _ _) _ _ _ _ :: _) _ _); refine wp_st rfl 28 _ _ rfl (w.heap.size + 1) 0 [_, _, _] rfl rfl size_Rat rfl ((HA.out.2.2.keep HB1.out).keep HB2.out) (Nat.le_refl _) rfl ?_; intro W9 c9 g9))
  have hb1 := below_then HA.out.1 HB1.out
  have hW := put_facts (g := w.heap.size + 1) (below_then hb1 HB2.out) (by omega) g9
  have hq := (HQ.out.away g9 (Nat.lt_of_lt_of_le HA.out.2.2.1 HB1.out.size)).base (b' := w.heap.size) hb1.size
  refine bodyPost_ret (resC rfl _ _ W9 (g := w.heap.size + 1) rfl (res_box 28 c9 dsR HR.out.1 HR.out.2 size_Rat)) rfl ?_
  exact ⟨_, rfl, hq, hW⟩
set_option maxRecDepth 100000 in
set_option maxHeartbeats 4000000 in
theorem rt_Frac (x y : Int) (w : World) (hx : I64 x) (hy : I64 y) : Calls Try.prog 46 #[.int .i64 x, .int .i64 y] w (RetQ w ((x : Rat) / (y : Rat)) 2) := by
  have CX : Hid (∀ w1, Calls Try.prog 91 #[.int .i64 x] w1 (RetI w1 x 2)) := Lib.hid fun w1 => it_Of x w1 hx
  have CY : Hid (∀ w1, Calls Try.prog 91 #[.int .i64 y] w1 (RetI w1 y 2)) := Lib.hid fun w1 => it_Of y w1 hy
  have CL : Hid (∀ v1 w1 b, PairB b w1 v1 ((x : Rat) / (y : Rat)) 2 → Calls Try.prog 90 #[v1] w1 (RetQ w1 ((x : Rat) / (y : Rat)) 2)) := Lib.hid fun v1 w1 b h => rt_low v1 _ 2 b w1 h (by decide)
  obtain ⟨dsR, hR1, hR2⟩ := row_Rat
  have HR := Lib.hid (And.intro hR1 hR2)
  clear hR1 hR2
  by_cases h0 : y = 0
  · subst h0
    have CZ : Hid (∀ w1, Calls Try.prog 43 #[.int .i64 0] w1 (RetQ w1 ((x : Rat) / ((0 : Int) : Rat)) 2)) := Lib.hid fun w1 => by
      rw [show (x : Rat) / ((0 : Int) : Rat) = ((0 : Int) : Rat) by simp [Rat.div_def]]
      exact rt_OfQ 0 w1 (by unfold I64; omega)
    clear hx hy CX CY CL
    go_enter Try.func46, Try.ntmps46
    go_upto_region 1 with fail
    have hB0 : Below w.heap.size w (w.alloc (.cells #[.bool false, .slice none 0 0, .slice none 0 0] 28)) := ((Below.refl _ _).alloc (Nat.le_refl _) _)
    have bx0 : Box (w.alloc (.cells #[.bool false, .slice none 0 0, .slice none 0 0] 28)) (w.heap.size) [.bool false, .slice none 0 0, .slice none 0 0] := (Box.new (by simp))
    generalize w.alloc (.cells #[.bool false, .slice none 0 0, .slice none 0 0] 28) = wA at hB0 bx0 ⊢
    have HA := Lib.hid (And.intro hB0 bx0)
    clear hB0 bx0
    go_wp2_with (first
      | (go_at_call 43; (with_reducible refine (CZ.out _).mono ?_); rintro e2 w2 ⟨v2, rfl, hq, hb2⟩; have HQ := Lib.hid hq; obtain ⟨g2, A2, n2, c2, B2, m2, d2, rfl⟩ := hq.form; have HB2 := Lib.hid hb2; clear hq hb2)
      | ((with_reducible show wpList _ _ _ (Oper.mk none (.store 28 _ _) _ _ _ _ :: _) _ _); refine wp_st rfl 28 _ _ rfl (w.heap.size) 0 [_, _, _] rfl rfl size_Rat rfl (HA.out.2.keep HB2.out) (Nat.le_refl _) rfl ?_; intro W9 c9 g9))
    have hW := put_facts (g := w.heap.size) (below_then HA.out.1 HB2.out) (by omega) g9
    have hq := (HQ.out.away g9 HA.out.2.1).base (b' := w.heap.size) HA.out.1.size
    refine bodyPost_ret (resC rfl _ _ W9 (g := w.heap.size) rfl (res_box 28 c9 dsR HR.out.1 HR.out.2 size_Rat)) rfl ?_
    exact ⟨_, rfl, hq, hW⟩
  · have H0 := Lib.hid h0
    clear hx hy h0
    go_enter Try.func46, Try.ntmps46
    have h0 := H0.out
    go_upto_region 1 with fail
    have hB0 : Below w.heap.size w (w.alloc (.cells #[.bool false, .slice none 0 0, .slice none 0 0] 28)) := ((Below.refl _ _).alloc (Nat.le_refl _) _)
    have bx0 : Box (w.alloc (.cells #[.bool false, .slice none 0 0, .slice none 0 0] 28)) (w.heap.size) [.bool false, .slice none 0 0, .slice none 0 0] := (Box.new (by simp))
    generalize w.alloc (.cells #[.bool false, .slice none 0 0, .slice none 0 0] 28) = wA at hB0 bx0 ⊢
    have HA := Lib.hid (And.intro hB0 bx0)
    clear hB0 bx0
    go_upto_region 3 with fail
    go_wp2_with (first
      | (go_at_call 91; first
          | ((with_reducible refine (CX.out _).mono ?_); rintro e1 w1 ⟨v1, rfl, hi, hb1⟩; have HI := Lib.hid hi; obtain ⟨na, A1, c1, l1, rfl, -⟩ := hi; have HB1 := Lib.hid hb1; clear hb1)
          | ((with_reducible refine (CY.out _).mono ?_); rintro e2 w2 ⟨v2, rfl, hi, hb2⟩; have HJ := Lib.hid hi; obtain ⟨nb, A2, c2, l2, rfl, -⟩ := hi; have HB2 := Lib.hid hb2; clear hb2))
      | (go_at_call 96; (with_reducible refine (rt_quotient _ _ _ _ _ _ _ _ _).mono ?_); rintro e3 w3 ⟨rfl, hb3⟩; have HB3 := Lib.hid hb3; clear hb3)
      | (go_at_call 90; (with_reducible refine (CL.out _ _ w1.heap.size (pair_of H0.out ((HI.out.grow HB2.out).grow HB3.out) (HJ.out.grow HB3.out))).mono ?_); rintro e4 w4 ⟨v4, rfl, hq, hb4⟩; have HQ := Lib.hid hq; obtain ⟨g4, A4, n4, c4, B4, m4, d4, rfl⟩ := hq.form; have HB4 := Lib.hid hb4; clear hq hb4)
      | ((with_reducible show wpList _ _ _ (Oper.mk none (.store 28 _ _) _ _ _ _ :: _) _ _); refine wp_st rfl 28 _ _ rfl (w.heap.size) 0 [_, _, _] rfl rfl size_Rat rfl ((((HA.out.2.keep HB1.out).keep HB2.out).keep HB3.out).keep HB4.out) (Nat.le_refl _) rfl ?_; intro W9 c9 g9))
    have hb3 := below_then (below_then (below_then HA.out.1 HB1.out) HB2.out) HB3.out
    have hW := put_facts (g := w.heap.size) (below_then hb3 HB4.out) (by omega) g9
    have hq := (HQ.out.away g9 (Nat.lt_of_lt_of_le HA.out.2.1 (below_then (below_then HB1.out HB2.out) HB3.out).size)).base (b' := w.heap.size) hb3.size
    refine bodyPost_ret (resC rfl _ _ W9 (g := w.heap.size) rfl (res_box 28 c9 dsR HR.out.1 HR.out.2 size_Rat)) rfl ?_
    exact ⟨_, rfl, hq, hW⟩
set_option maxRecDepth 100000 in
set_option maxHeartbeats 4000000 in
theorem rt_Sign (v : Value) (z : Rat) (K : Nat) (w : World) (h : RatA w v z K) (hK : 1 ≤ K) (h9 : K ≤ 1000000) : Calls Try.prog 48 #[v] w fun e w' => e = .returned (.int .i64 (sgnR z)) ∧ Below w.heap.size w w' := by
  have CR : Hid (∀ w1, Below w.heap.size w w1 → Calls Try.prog 86 #[v] w1 (RetNum w1 z K)) := Lib.hid fun w1 hb => rt_read v z K w1 (h.grow hb) hK h9
  obtain ⟨neg, A, n, c, l, B, m, d, r, rfl, -⟩ := h
  have CS : Hid (∀ v1 w1 b x, IntB b w1 v1 x K → Calls Try.prog 97 #[v1] w1 fun e w' => e = .returned (.int .i64 (cmpI x 0)) ∧ Below w1.heap.size w1 w') := Lib.hid fun v1 w1 b x h => by
    obtain ⟨na, A, n, c, a, rfl, d, n1, n2, n3, rfl⟩ := h
    exact it_Sign na A n c a w1 d.1 n1 n2 (by omega)
  obtain ⟨dsR, hR1, hR2⟩ := row_Rat
  have HR := Lib.hid (And.intro hR1 hR2)
  clear hR1 hR2
  go_enter Try.func48, Try.ntmps48
  have hfn := @fld_num
  have hfp := @fld_pair
  go_upto_region 1 with fail
  have hB0 : Below w.heap.size w (w.alloc (.cells #[.bool neg, .slice A n c, .slice B m d] 28)) := ((Below.refl _ _).alloc (Nat.le_refl _) _)
  have bx0 : Box (w.alloc (.cells #[.bool neg, .slice A n c, .slice B m d] 28)) (w.heap.size) [.bool neg, .slice A n c, .slice B m d] := (Box.new (by simp))
  generalize w.alloc (.cells #[.bool neg, .slice A n c, .slice B m d] 28) = wA at hB0 bx0 ⊢
  have HA := Lib.hid (And.intro hB0 bx0)
  clear hB0 bx0
  go_wp2_with (first
    | ((with_reducible show wpList _ _ _ (Oper.mk _ (.load 28 _) _ _ _ _ :: _) _ _); refine wp_ld rfl 28 _ rfl (w.heap.size) 0 rfl (HA.out.2) [.bool neg, .slice A n c, .slice B m d] (fun j v h => by rcases j with _ | _ | _ | j <;> simp at h ⊢ <;> exact h) dsR HR.out.1 HR.out.2 size_Rat ?_)
    | (go_at_call 86; (with_reducible refine (CR.out _ HA.out.1).mono ?_); rintro e1 w1 ⟨v1, rfl, ⟨ng1, A1, n1, c1, l1, B1, m1, d1, r1, wh1, rfl, ⟨h1, h2, h2', h2''⟩, ⟨h3, h4, h4', h4''⟩, ⟨h0, h0'⟩, hz⟩, hb1⟩; have HB1 := Lib.hid hb1; have HL1 := Lib.hid (And.intro h1 (And.intro h2 (And.intro h2' h2''))); have HM1 := Lib.hid (And.intro h3 (And.intro h4 (And.intro h4' h4''))); have H01 := Lib.hid (And.intro h0 (And.intro h0' hz)); clear h1 h2 h2' h2'' h3 h4 h4' h4'' h0 h0' hz hb1)
    | (go_at_call 97; (with_reducible refine (CS.out _ _ wA.heap.size _ (IntB.mk HL1.out)).mono ?_); rintro e2 w2 ⟨rfl, hb2⟩; have HB2 := Lib.hid hb2; clear hb2))
  go_ret
  refine ⟨?_, below_then (below_then HA.out.1 HB1.out) HB2.out⟩
  rw [H01.out.2.2, sgnR_frac H01.out.1]
  rfl
set_option maxRecDepth 100000 in
set_option maxHeartbeats 4000000 in
theorem rt_Abs (v : Value) (z : Rat) (K : Nat) (w : World) (h : RatA w v z K) (hK : 1 ≤ K) (h9 : K ≤ 1000000) : Calls Try.prog 47 #[v] w (RetQ w (absR z) K) := by
  have H := Lib.hid h
  obtain ⟨neg, A, n, c, l, B, m, d, r, rfl, h1, h2, rfl⟩ := h
  have CT : Hid (∀ w1, Below w.heap.size w w1 → Calls Try.prog 75 #[.agg #[.bool false, .slice A n c, .slice B m d]] w1 (RetQ w1 (absR (frac neg l r)) K)) := Lib.hid fun w1 hb => rt_Trim _ _ K w1 (RatA.grow ⟨false, A, n, c, l, B, m, d, r, rfl, h1, h2, absR_frac h2.1.dig h1.1.dig⟩ hb) hK h9
  clear h1 h2 H
  obtain ⟨dsR, hR1, hR2⟩ := row_Rat
  have HR := Lib.hid (And.intro hR1 hR2)
  clear hR1 hR2
  go_enter Try.func47, Try.ntmps47
  go_upto_region 1 with fail
  have hB0 : Below w.heap.size w ((w.alloc (.cells #[.bool neg, .slice A n c, .slice B m d] 28)).alloc (.cells #[.bool false, .slice none 0 0, .slice none 0 0] 28)) := (((Below.refl _ _).alloc (Nat.le_refl _) _).alloc (by simp; try omega) _)
  have bx0 : Box ((w.alloc (.cells #[.bool neg, .slice A n c, .slice B m d] 28)).alloc (.cells #[.bool false, .slice none 0 0, .slice none 0 0] 28)) (w.heap.size) [.bool neg, .slice A n c, .slice B m d] := ((Box.new (by simp)).alloc _)
  have bx1 : Box ((w.alloc (.cells #[.bool neg, .slice A n c, .slice B m d] 28)).alloc (.cells #[.bool false, .slice none 0 0, .slice none 0 0] 28)) (w.heap.size + 1) [.bool false, .slice none 0 0, .slice none 0 0] := (Box.new (by simp))
  generalize (w.alloc (.cells #[.bool neg, .slice A n c, .slice B m d] 28)).alloc (.cells #[.bool false, .slice none 0 0, .slice none 0 0] 28) = wA at hB0 bx0 bx1 ⊢
  have HA := Lib.hid (And.intro hB0 (And.intro bx0 bx1))
  clear hB0 bx0 bx1
  have x1 : wA.cell? ⟨w.heap.size, 1, none⟩ = some (.slice A n c) := HA.out.2.1.2.1 1
  have x2 : wA.cell? ⟨w.heap.size, 2, none⟩ = some (.slice B m d) := HA.out.2.1.2.1 2
  go_wp2_with (first
    | (go_at_call 75; (with_reducible refine (CT.out _ HA.out.1).mono ?_); rintro e2 w2 ⟨v2, rfl, hq, hb2⟩; have HQ := Lib.hid hq; obtain ⟨g2, A2, n2, c2, B2, m2, d2, rfl⟩ := hq.form; have HB2 := Lib.hid hb2; clear hq hb2)
    | ((with_reducible show wpList _ _ _ (Oper.mk none (.store 28 _ _) _ _ _ _ :: _) _ _); refine wp_st rfl 28 _ _ rfl (w.heap.size + 1) 0 [_, _, _] rfl rfl size_Rat rfl (HA.out.2.2.keep HB2.out) (Nat.le_refl _) rfl ?_; intro W9 c9 g9))
  have hW := put_facts (g := w.heap.size + 1) (below_then HA.out.1 HB2.out) (by omega) g9
  have hq := (HQ.out.away g9 HA.out.2.2.1).base (b' := w.heap.size) HA.out.1.size
  refine bodyPost_ret (resC rfl _ _ W9 (g := w.heap.size + 1) rfl (res_box 28 c9 dsR HR.out.1 HR.out.2 size_Rat)) rfl ?_
  exact ⟨_, rfl, hq, hW⟩
end Go.Proofs.Ytmdfgidejdiiiaa
