/- Several texts in one: Is It. -/
import Derived.Test.YtmdfgidejdiiiaalIr
set_option linter.unusedVariables false
set_option linter.unusedSimpArgs false
section
namespace Go.Proofs.Ytmdfgidejdiiiaa
open Go.RowKit
def RetRN (w : World) (x y : Int) (K : Nat) (e : Ending) (w' : World) : Prop := ∃ v p q, e = .returned v ∧ RatN w.heap.size w' v p q K ∧ 0 < q ∧ (x : Rat) / (y : Rat) = (p : Rat) / (q : Rat) ∧ (y = 1 → q = 1) ∧ Below w.heap.size w w'
theorem RetRN.retQ {w w' : World} {x y : Int} {K : Nat} {e : Ending} (h : RetRN w x y K e w') : RetQ w ((x : Rat) / (y : Rat)) K e w' := by
  obtain ⟨v, p, q, e, h1, h2, h3, -, h5⟩ := h
  exact ⟨v, e, h3 ▸ h1.ratQ h2, h5⟩
theorem RetRN.le {w w' : World} {x y : Int} {K M : Nat} {e : Ending} (h : RetRN w x y K e w') (hm : K ≤ M) : RetRN w x y M e w' := by
  obtain ⟨v, p, q, e, h1, h2⟩ := h
  exact ⟨v, p, q, e, h1.le hm, h2⟩
theorem den_one {g y q : Int} {gd : Bool} (h : sgn gd q = y / g) (hg : 0 < g) (hd : g ∣ y) (hq : 0 < q) : y = 1 → q = 1 := by
  intro e
  subst e
  have hg1 : g ≤ 1 := Int.le_of_dvd (by decide) hd
  have : g = 1 := by omega
  subst this
  cases gd <;> simp [sgn] at h <;> omega
theorem IntO.short {b : Nat} {w : World} {v : Value} {z : Int} {K M : Nat} (h : IntO b w v z K) (h1 : z < bp M) (h2 : -z < bp M) : IntO b w v z M := by
  obtain ⟨g, A, c, l, e, o, n, k, s⟩ := h
  refine ⟨g, A, c, l, e, o, n, nrm_len o.dig n ?_, s⟩
  cases g <;> simp [sgn] at s <;> omega
theorem IntB.abs {b : Nat} {w : World} {v : Value} {z : Int} {K : Nat} (h : IntB b w v z K) : z < bp K ∧ -z < bp K := by
  obtain ⟨g, A, n, c, l, e, d, n1, n2, n3, rfl⟩ := h
  have h1 := nv_lt d.1.dig
  have h2 := nv_low d.1.dig
  have h3 := bp_le (show l.length ≤ K by omega)
  cases g <;> simp [sgn] <;> omega
theorem quo_abs {x g B : Int} (hg : 0 < g) (hd : g ∣ x) (h : x < B ∧ -x < B) : x / g < B ∧ -(x / g) < B := by
  obtain ⟨a, rfl⟩ := hd
  rw [Int.mul_ediv_cancel_left _ (by omega)]
  rcases Int.lt_or_le a 0 with h1 | h1
  · have := mul_mono (a := 1) (b := g) (c := -a) (by omega) (by omega)
    rw [Int.one_mul, Int.mul_neg] at this
    omega
  · have := mul_mono (a := 1) (b := g) (c := a) (by omega) h1
    rw [Int.one_mul] at this
    omega
theorem quo_rat {x y g : Int} (hg : 0 < g) (h1 : g ∣ x) (h2 : g ∣ y) (hy : y ≠ 0) : ((x / g : Int) : Rat) / ((y / g : Int) : Rat) = (x : Rat) / (y : Rat) ∧ y / g ≠ 0 := by
  obtain ⟨a, rfl⟩ := h1
  obtain ⟨b, rfl⟩ := h2
  have hg' : g ≠ 0 := by omega
  rw [Int.mul_ediv_cancel_left _ hg', Int.mul_ediv_cancel_left _ hg']
  have hb : b ≠ 0 := fun e => hy (by rw [e, Int.mul_zero])
  refine ⟨?_, hb⟩
  have hgr := cast_pos hg
  rw [Rat.intCast_mul, Rat.intCast_mul, Rat.div_def, Rat.div_def, Rat.inv_mul_rev, Rat.mul_comm (b : Rat)⁻¹, Rat.mul_assoc, rat_left (a : Rat), ← Rat.mul_assoc (g : Rat), Rat.mul_inv_cancel _ hgr, Rat.one_mul]
theorem div_sgn {n d : Int} {gd : Bool} {l : List Int} (h : sgn gd (nv l) = d) (h0 : 0 < nv l) : (gd = false → (n : Rat) / (nv l : Rat) = (n : Rat) / (d : Rat)) ∧ (gd = true → ((-n : Int) : Rat) / (nv l : Rat) = (n : Rat) / (d : Rat)) := by
  refine ⟨fun e => ?_, fun e => ?_⟩
  · subst e; rw [← h]; rfl
  · subst e
    rw [← h, show sgn true (nv l) = -nv l from rfl, neg_div _ _ h0]
theorem sgn_pos {g : Bool} {l : List Int} {z : Int} (hd : Dig l) (h : sgn g (nv l) = z) (hz : z ≠ 0) : 0 < nv l := by
  have := nv_low hd
  cases g <;> simp [sgn] at h <;> omega
set_option maxRecDepth 100000 in
set_option maxHeartbeats 4000000 in
theorem r3_reduce (v u : Value) (x y : Int) (K M b b' : Nat) (w : World) (h : IntB b w v x K) (h' : IntB b' w u y M) (hK : 1 ≤ K) (hM : 1 ≤ M) (h9 : K ≤ 1000000) (h8 : M ≤ 1000000) : Calls Try.prog 73 #[v, u] w (RetRN w x y (max K M)) := by
  have CX : Hid (∀ w1, Below w.heap.size w w1 → Calls Try.prog 101 #[v] w1 fun e w' => e = .returned (.int .i64 (cmpI x 0)) ∧ Below w1.heap.size w1 w') := Lib.hid fun w1 hb => r2_Sign v x K b w1 (h.grow hb) (by omega)
  have CY : Hid (∀ w1, Below w.heap.size w w1 → Calls Try.prog 101 #[u] w1 fun e w' => e = .returned (.int .i64 (cmpI y 0)) ∧ Below w1.heap.size w1 w') := Lib.hid fun w1 hb => r2_Sign u y M b' w1 (h'.grow hb) (by omega)
  have HX := Lib.hid h
  have HY := Lib.hid h'
  have HKK : Hid (1 ≤ max K M) := Lib.hid (by omega)
  obtain ⟨na, A, n, c, X, rfl, -⟩ := h
  obtain ⟨nb, B, m, d, Y, rfl, -⟩ := h'
  obtain ⟨dI, hI1, hI2⟩ := row_Int
  have HI := Lib.hid (And.intro hI1 hI2)
  clear hI1 hI2
  obtain ⟨dsR, hR1, hR2⟩ := row_Rat
  have HRR := Lib.hid (And.intro hR1 hR2)
  clear hR1 hR2
  by_cases hx : x = 0
  · rw [show cmpI x 0 = 0 by rw [hx]; rfl] at CX
    have HZ0 : Hid ((x : Rat) / (y : Rat) = 0) := Lib.hid (by rw [hx]; simp [Rat.div_def])
    clear hx
    go_enter Try.func73, Try.ntmps73
    go_upto_region 1 with fail
    have hB0 : Below w.heap.size w (((w.alloc (.cells #[.bool na, .slice A n c] 26)).alloc (.cells #[.bool nb, .slice B m d] 26)).alloc (.cells #[.bool false, .slice none 0 0, .slice none 0 0] 28)) := ((((Below.refl _ _).alloc (Nat.le_refl _) _).alloc (by simp; try omega) _).alloc (by simp; try omega) _)
    have bx0 : Box (((w.alloc (.cells #[.bool na, .slice A n c] 26)).alloc (.cells #[.bool nb, .slice B m d] 26)).alloc (.cells #[.bool false, .slice none 0 0, .slice none 0 0] 28)) (w.heap.size) [.bool na, .slice A n c] := (((Box.new (by simp)).alloc _).alloc _)
    have bx1 : Box (((w.alloc (.cells #[.bool na, .slice A n c] 26)).alloc (.cells #[.bool nb, .slice B m d] 26)).alloc (.cells #[.bool false, .slice none 0 0, .slice none 0 0] 28)) (w.heap.size + 1) [.bool nb, .slice B m d] := ((Box.new (by simp)).alloc _)
    have bx2 : Box (((w.alloc (.cells #[.bool na, .slice A n c] 26)).alloc (.cells #[.bool nb, .slice B m d] 26)).alloc (.cells #[.bool false, .slice none 0 0, .slice none 0 0] 28)) (w.heap.size + 1 + 1) [.bool false, .slice none 0 0, .slice none 0 0] := (Box.new (by simp))
    generalize ((w.alloc (.cells #[.bool na, .slice A n c] 26)).alloc (.cells #[.bool nb, .slice B m d] 26)).alloc (.cells #[.bool false, .slice none 0 0, .slice none 0 0] 28) = wA at hB0 bx0 bx1 bx2 ⊢
    have HA := Lib.hid (And.intro hB0 (And.intro bx0 (And.intro bx1 bx2)))
    clear hB0 bx0 bx1 bx2
    go_wp2_with (first
      | ((with_reducible show wpList _ _ _ (Oper.mk (some 12) (.load 26 _) _ _ _ _ :: _) _ _); refine wp_ld rfl 26 _ rfl (w.heap.size) 0 rfl (HA.out.2.1) [.bool na, .slice A n c] (fun j v h => by rcases j with _ | _ | _ | j <;> simp at h ⊢ <;> exact h) dI HI.out.1 HI.out.2 size_Int ?_)
      | (go_at_call 101; (with_reducible refine (CX.out _ HA.out.1).mono ?_); rintro e1 w1 ⟨rfl, hb1⟩; have HB1 := Lib.hid hb1; clear hb1)
      | ((with_reducible show wpList _ _ _ (Oper.mk none (.store 28 _ _) _ _ _ _ :: _) _ _); refine wp_st rfl 28 _ _ rfl (w.heap.size + 1 + 1) 0 [_, _, _] rfl rfl size_Rat rfl ((HA.out.2.2.2.keep HB1.out).alloc _) (Nat.le_refl _) rfl ?_; intro W9 c9 g9))
    have hs1 := HB1.out.size
    have hl := HA.out.2.2.2.1
    have hba := below_then HA.out.1 HB1.out
    have hW := put_facts (g := w.heap.size + 1 + 1) (hba.alloc hba.size (.cells #[.int .u32 1] 77)) (by omega) g9
    have o3 := ((digA_one (w := w1) (x := 1) (by omega)).away g9 (by omega)).base (base' := w.heap.size) hba.size
    refine bodyPost_ret (resC rfl _ _ W9 (g := w.heap.size + 1 + 1) rfl (res_box 28 c9 dsR HRR.out.1 HRR.out.2 size_Rat)) rfl ?_
    exact ⟨_, 0, 1, rfl, ⟨false, none, 0, [], _, 1, [1], rfl, ⟨OwG.nil, Nrm.nil, Nat.zero_le _, rfl⟩, o3, nrm_one, by have := HKK.out; simp; omega, by decide⟩, by decide, by rw [HZ0.out]; simp [Rat.div_def], fun _ => rfl, hW⟩
  have hxs : Hid (cmpI x 0 ≠ 0) := Lib.hid fun e => hx (cmpI_eq e)
  obtain ⟨sx, hsx⟩ : ∃ s, cmpI x 0 = s := ⟨_, rfl⟩
  rw [hsx] at CX hxs
  have hs1 : sx ≠ 0 := hxs.out
  have hs2 : (sx == 0) = false := by simpa using hs1
  have hs3 : decide (sx = 0) = false := decide_eq_false hs1
  have HXN := Lib.hid hx
  clear hx hsx hxs
  by_cases hy : y = 0
  · rw [show cmpI y 0 = 0 by rw [hy]; rfl] at CY
    have HZ0 : Hid ((x : Rat) / (y : Rat) = 0) := Lib.hid (by rw [hy]; simp [Rat.div_def])
    clear hy
    go_enter Try.func73, Try.ntmps73
    go_upto_region 1 with fail
    have hB0 : Below w.heap.size w (((w.alloc (.cells #[.bool na, .slice A n c] 26)).alloc (.cells #[.bool nb, .slice B m d] 26)).alloc (.cells #[.bool false, .slice none 0 0, .slice none 0 0] 28)) := ((((Below.refl _ _).alloc (Nat.le_refl _) _).alloc (by simp; try omega) _).alloc (by simp; try omega) _)
    have bx0 : Box (((w.alloc (.cells #[.bool na, .slice A n c] 26)).alloc (.cells #[.bool nb, .slice B m d] 26)).alloc (.cells #[.bool false, .slice none 0 0, .slice none 0 0] 28)) (w.heap.size) [.bool na, .slice A n c] := (((Box.new (by simp)).alloc _).alloc _)
    have bx1 : Box (((w.alloc (.cells #[.bool na, .slice A n c] 26)).alloc (.cells #[.bool nb, .slice B m d] 26)).alloc (.cells #[.bool false, .slice none 0 0, .slice none 0 0] 28)) (w.heap.size + 1) [.bool nb, .slice B m d] := ((Box.new (by simp)).alloc _)
    have bx2 : Box (((w.alloc (.cells #[.bool na, .slice A n c] 26)).alloc (.cells #[.bool nb, .slice B m d] 26)).alloc (.cells #[.bool false, .slice none 0 0, .slice none 0 0] 28)) (w.heap.size + 1 + 1) [.bool false, .slice none 0 0, .slice none 0 0] := (Box.new (by simp))
    generalize ((w.alloc (.cells #[.bool na, .slice A n c] 26)).alloc (.cells #[.bool nb, .slice B m d] 26)).alloc (.cells #[.bool false, .slice none 0 0, .slice none 0 0] 28) = wA at hB0 bx0 bx1 bx2 ⊢
    have HA := Lib.hid (And.intro hB0 (And.intro bx0 (And.intro bx1 bx2)))
    clear hB0 bx0 bx1 bx2
    go_wp2_with (first
      | ((with_reducible show wpList _ _ _ (Oper.mk (some 12) (.load 26 _) _ _ _ _ :: _) _ _); refine wp_ld rfl 26 _ rfl (w.heap.size) 0 rfl (HA.out.2.1) [.bool na, .slice A n c] (fun j v h => by rcases j with _ | _ | _ | j <;> simp at h ⊢ <;> exact h) dI HI.out.1 HI.out.2 size_Int ?_)
      | (go_at_call 101; (with_reducible refine (CX.out _ HA.out.1).mono ?_); rintro e1 w1 ⟨rfl, hb1⟩; have HB1 := Lib.hid hb1; obtain ⟨y3, y4⟩ := (HA.out.2.2.1.keep hb1).c2; clear hb1)
      | (go_at_call 101; (with_reducible refine (CY.out _ (below_then HA.out.1 HB1.out)).mono ?_); rintro e2 w2 ⟨rfl, hb2⟩; have HB2 := Lib.hid hb2; clear hb2)
      | ((with_reducible show wpList _ _ _ (Oper.mk none (.store 28 _ _) _ _ _ _ :: _) _ _); refine wp_st rfl 28 _ _ rfl (w.heap.size + 1 + 1) 0 [_, _, _] rfl rfl size_Rat rfl ((HA.out.2.2.2.keep (below_then HB1.out HB2.out)).alloc _) (Nat.le_refl _) rfl ?_; intro W9 c9 g9))
    have HBZ := Lib.hid (below_then HB1.out HB2.out)
    have hs1 := HBZ.out.size
    have hl := HA.out.2.2.2.1
    have hba := below_then HA.out.1 HBZ.out
    have hW := put_facts (g := w.heap.size + 1 + 1) (hba.alloc hba.size (.cells #[.int .u32 1] 77)) (by omega) g9
    have o3 := ((digA_one (w := w2) (x := 1) (by omega)).away g9 (by omega)).base (base' := w.heap.size) hba.size
    refine bodyPost_ret (resC rfl _ _ W9 (g := w.heap.size + 1 + 1) rfl (res_box 28 c9 dsR HRR.out.1 HRR.out.2 size_Rat)) rfl ?_
    exact ⟨_, 0, 1, rfl, ⟨false, none, 0, [], _, 1, [1], rfl, ⟨OwG.nil, Nrm.nil, Nat.zero_le _, rfl⟩, o3, nrm_one, by have := HKK.out; simp; omega, by decide⟩, by decide, by rw [HZ0.out]; simp [Rat.div_def], fun _ => rfl, hW⟩
  have hys : Hid (cmpI y 0 ≠ 0) := Lib.hid fun e => hy (cmpI_eq e)
  obtain ⟨sy, hsy⟩ : ∃ s, cmpI y 0 = s := ⟨_, rfl⟩
  rw [hsy] at CY hys
  have hs4 : sy ≠ 0 := hys.out
  have hs5 : (sy == 0) = false := by simpa using hs4
  have hs6 : decide (sy = 0) = false := decide_eq_false hs4
  have HYN := Lib.hid hy
  clear hy hsy hys
  go_enter Try.func73, Try.ntmps73
  go_upto_region 1 with fail
  have hB0 : Below w.heap.size w (((w.alloc (.cells #[.bool na, .slice A n c] 26)).alloc (.cells #[.bool nb, .slice B m d] 26)).alloc (.cells #[.bool false, .slice none 0 0, .slice none 0 0] 28)) := ((((Below.refl _ _).alloc (Nat.le_refl _) _).alloc (by simp; try omega) _).alloc (by simp; try omega) _)
  have bx0 : Box (((w.alloc (.cells #[.bool na, .slice A n c] 26)).alloc (.cells #[.bool nb, .slice B m d] 26)).alloc (.cells #[.bool false, .slice none 0 0, .slice none 0 0] 28)) (w.heap.size) [.bool na, .slice A n c] := (((Box.new (by simp)).alloc _).alloc _)
  have bx1 : Box (((w.alloc (.cells #[.bool na, .slice A n c] 26)).alloc (.cells #[.bool nb, .slice B m d] 26)).alloc (.cells #[.bool false, .slice none 0 0, .slice none 0 0] 28)) (w.heap.size + 1) [.bool nb, .slice B m d] := ((Box.new (by simp)).alloc _)
  have bx2 : Box (((w.alloc (.cells #[.bool na, .slice A n c] 26)).alloc (.cells #[.bool nb, .slice B m d] 26)).alloc (.cells #[.bool false, .slice none 0 0, .slice none 0 0] 28)) (w.heap.size + 1 + 1) [.bool false, .slice none 0 0, .slice none 0 0] := (Box.new (by simp))
  generalize ((w.alloc (.cells #[.bool na, .slice A n c] 26)).alloc (.cells #[.bool nb, .slice B m d] 26)).alloc (.cells #[.bool false, .slice none 0 0, .slice none 0 0] 28) = wA at hB0 bx0 bx1 bx2 ⊢
  have HA := Lib.hid (And.intro hB0 (And.intro bx0 (And.intro bx1 bx2)))
  clear hB0 bx0 bx1 bx2
  go_upto_region 3 with (first
    | ((with_reducible show wpList _ _ _ (Oper.mk (some 12) (.load 26 _) _ _ _ _ :: _) _ _); refine wp_ld rfl 26 _ rfl (w.heap.size) 0 rfl (HA.out.2.1) [.bool na, .slice A n c] (fun j v h => by rcases j with _ | _ | _ | j <;> simp at h ⊢ <;> exact h) dI HI.out.1 HI.out.2 size_Int ?_)
    | (go_at_call 101; (with_reducible refine (CX.out _ HA.out.1).mono ?_); rintro e1 w1 ⟨rfl, hb1⟩; have HB1 := Lib.hid hb1; obtain ⟨y3, y4⟩ := (HA.out.2.2.1.keep hb1).c2; clear hb1)
    | (go_at_call 101; (with_reducible refine (CY.out _ (below_then HA.out.1 HB1.out)).mono ?_); rintro e2 w2 ⟨rfl, hb2⟩; have HB2 := Lib.hid hb2; clear hb2))
  have hb0 := below_then HA.out.1 (below_then HB1.out HB2.out)
  have HC0 : Hid (Below w.heap.size w w2 ∧ Box w2 w.heap.size [.bool na, .slice A n c] ∧ Box w2 (w.heap.size + 1) [.bool nb, .slice B m d] ∧ Box w2 (w.heap.size + 1 + 1) [.bool false, .slice none 0 0, .slice none 0 0]) := Lib.hid ⟨hb0, HA.out.2.1.keep (below_then HB1.out HB2.out), HA.out.2.2.1.keep (below_then HB1.out HB2.out), HA.out.2.2.2.keep (below_then HB1.out HB2.out)⟩
  clear hb0 HA HB1 HB2 y3 y4 CX CY
  have CG : Hid (∀ w1, Below w.heap.size w w1 → Calls Try.prog 107 #[.agg #[.bool na, .slice A n c], .agg #[.bool nb, .slice B m d]] w1 (RetGI w1 x y (max K M))) := Lib.hid fun w1 hb => r2_Gcd _ _ x y K M b b' w1 (HX.out.grow hb) (HY.out.grow hb) h9 h8
  go_upto_region 4 with (first
    | ((with_reducible show wpList _ _ _ (Oper.mk (some 22) (.load 26 _) _ _ _ _ :: _) _ _); refine wp_ld rfl 26 _ rfl (w.heap.size) 0 rfl (HC0.out.2.1) [.bool na, .slice A n c] (fun j v h => by rcases j with _ | _ | _ | j <;> simp at h ⊢ <;> exact h) dI HI.out.1 HI.out.2 size_Int ?_)
    | ((with_reducible show wpList _ _ _ (Oper.mk (some 23) (.load 26 _) _ _ _ _ :: _) _ _); refine wp_ld rfl 26 _ rfl (w.heap.size + 1) 0 rfl (HC0.out.2.2.1) [.bool nb, .slice B m d] (fun j v h => by rcases j with _ | _ | _ | j <;> simp at h ⊢ <;> exact h) dI HI.out.1 HI.out.2 size_Int ?_)
    | (go_at_call 107; (with_reducible refine (CG.out _ HC0.out.1).mono ?_); rintro e3 w3 ⟨v3, g, rfl, hi, hgf, hb3⟩; have HO3 := Lib.hid hi; obtain ⟨ng3, A3, c3, l3, rfl, -⟩ := hi; have HB3 := Lib.hid hb3; have HGF := Lib.hid hgf; clear hb3 hgf)
    | ((with_reducible show wpList _ _ _ (Oper.mk none (.store 26 (.tmp 5) _) _ _ _ _ :: _) _ _); refine wp_st rfl 26 _ _ rfl (w3.heap.size) 0 [_, _] rfl rfl size_Int rfl ((Box.new rfl)) (Nat.le_refl _) rfl ?_; intro W4 d4 q4))
  have hb34 : Below w3.heap.size w3 W4 := put_facts ((Below.refl _ _).alloc (Nat.le_refl _) _) (Nat.le_refl _) q4
  have hb24 := below_then HB3.out hb34
  have ht2 := HC0.out.2.2.2.1
  have ht3 := HB3.out.size
  have hlt4 : w3.heap.size < W4.heap.size := d4.1
  have HO4 := Lib.hid (HO3.out.grow hb34)
  have hd4 := d4
  obtain ⟨n3, hn3⟩ : ∃ n, l3.length = n := ⟨_, rfl⟩
  obtain ⟨G, hG⟩ : ∃ n, w3.heap.size = n := ⟨_, rfl⟩
  rw [hn3, hG] at hd4
  rw [hG] at ht3 hlt4
  rw [hn3] at HO4
  have HC4 : Hid (Below w.heap.size w W4 ∧ Box W4 w.heap.size [.bool na, .slice A n c] ∧ Box W4 (w.heap.size + 1) [.bool nb, .slice B m d] ∧ Box W4 (w.heap.size + 1 + 1) [.bool false, .slice none 0 0, .slice none 0 0] ∧ Box W4 G [.bool ng3, .slice A3 n3 c3] ∧ w.heap.size + 1 + 1 < G) := Lib.hid ⟨below_then HC0.out.1 hb24, HC0.out.2.1.keep hb24, HC0.out.2.2.1.keep hb24, HC0.out.2.2.2.keep hb24, hd4, by omega⟩
  have hg0 : 0 < g := by
    have h := HGF.out
    have hx := HXN.out
    refine Int.lt_iff_le_and_ne.2 ⟨h.1, fun e => hx ?_⟩
    rw [← e] at h
    exact Int.zero_dvd.1 h.2.1
  have HG0 := Lib.hid hg0
  have HM : Hid (K ≤ max K M ∧ M ≤ max K M ∧ max K M ≤ 1000000) := Lib.hid (by omega)
  obtain ⟨R, hR⟩ : ∃ r, max K M = r := ⟨_, rfl⟩
  rw [hR] at HO4 HM HKK ⊢
  have HRM := Lib.hid hR
  have CD1 : Hid (∀ w1, Below W4.heap.size W4 w1 → Calls Try.prog 108 #[.agg #[.bool na, .slice A n c], .agg #[.bool ng3, .slice A3 n3 c3]] w1 (RetD w1 (x / g) (x % g) (K + 1) R)) := Lib.hid fun w1 hb => r2_Div _ _ x g K R b w.heap.size w1 ((HX.out.grow HC4.out.1).grow hb) (HO4.out.grow hb).intB hK h9 HM.out.2.2 HG0.out
  have CD2 : Hid (∀ w1, Below W4.heap.size W4 w1 → Calls Try.prog 108 #[.agg #[.bool nb, .slice B m d], .agg #[.bool ng3, .slice A3 n3 c3]] w1 (RetD w1 (y / g) (y % g) (M + 1) R)) := Lib.hid fun w1 hb => r2_Div _ _ y g M R b' w.heap.size w1 ((HY.out.grow HC4.out.1).grow hb) (HO4.out.grow hb).intB hM h8 HM.out.2.2 HG0.out
  have HQ1 : Hid (x / g < bp R ∧ -(x / g) < bp R) := Lib.hid (by
    have h := quo_abs HG0.out HGF.out.2.1 HX.out.abs
    have hk := bp_le HM.out.1
    omega)
  have HQ2 : Hid (y / g < bp R ∧ -(y / g) < bp R) := Lib.hid (by
    have h := quo_abs HG0.out HGF.out.2.2 HY.out.abs
    have hk := bp_le HM.out.2.1
    omega)
  have HQR : Hid (((x / g : Int) : Rat) / ((y / g : Int) : Rat) = (x : Rat) / (y : Rat) ∧ y / g ≠ 0) := Lib.hid (quo_rat HG0.out HGF.out.2.1 HGF.out.2.2 HYN.out)
  have HDN : Hid (∀ (gd : Bool) (r : Int), sgn gd r = y / g → 0 < r → (y = 1 → r = 1)) := Lib.hid fun gd r h1 h2 => den_one h1 HG0.out HGF.out.2.2 h2
  clear ht2 ht3 hlt4 hd4 hb34 hb24 d4 q4 HO3 HB3 CG HC0 HXN HYN hg0 HGF hs1 hs2 hs3 hs4 hs5 hs6 hR
  rw [hn3, hG]
  clear hn3 hG
  generalize x / g = p at CD1 HQ1 HQR
  generalize y / g = q at CD2 HQ2 HQR HDN
  generalize x % g = rx at CD1
  generalize y % g = ry at CD2
  go_upto_region 5 with (first
    | ((with_reducible show wpList _ _ _ (Oper.mk (some 26) (.load 26 _) _ _ _ _ :: _) _ _); refine wp_ld rfl 26 _ rfl (w.heap.size) 0 rfl (HC4.out.2.1) [.bool na, .slice A n c] (fun j v h => by rcases j with _ | _ | _ | j <;> simp at h ⊢ <;> exact h) dI HI.out.1 HI.out.2 size_Int ?_)
    | ((with_reducible show wpList _ _ _ (Oper.mk (some 27) (.load 26 _) _ _ _ _ :: _) _ _); refine wp_ld rfl 26 _ rfl (G) 0 rfl (HC4.out.2.2.2.2.1) [.bool ng3, .slice A3 n3 c3] (fun j v h => by rcases j with _ | _ | _ | j <;> simp at h ⊢ <;> exact h) dI HI.out.1 HI.out.2 size_Int ?_)
    | (go_at_call 108; (with_reducible refine (CD1.out _ (Below.refl _ _)).mono ?_); rintro e5 w5 ⟨v5, rfl, ⟨u1, u2, rfl, hi, hj⟩, hb5⟩; have HP5 := Lib.hid (hi.short HQ1.out.1 HQ1.out.2); obtain ⟨ng5, A5, c5, l5, rfl, -⟩ := hi; obtain ⟨ng6, A6, c6, l6, rfl, -⟩ := hj; have HB5 := Lib.hid hb5; clear hb5)
    | ((with_reducible show wpList _ _ _ (Oper.mk none (.store 26 (.tmp 6) _) _ _ _ _ :: _) _ _); refine wp_st rfl 26 _ _ rfl (w5.heap.size) 0 [_, _] rfl rfl size_Int rfl ((Box.new rfl).alloc _) (Nat.le_refl _) rfl ?_; intro W6 d6 q6)
    | ((with_reducible show wpList _ _ _ (Oper.mk none (.store 26 (.tmp 7) _) _ _ _ _ :: _) _ _); refine wp_st rfl 26 _ _ rfl (w5.heap.size + 1) 0 [_, _] rfl rfl size_Int rfl ((Box.new (by simp)).grown q6 (fun e => by injection e with e; omega)) (Nat.le_refl _) rfl ?_; intro W7 d7 q7))
  have hb57 : Below w5.heap.size w5 W7 := put_facts (put_facts (((Below.refl _ _).alloc (Nat.le_refl _) _).alloc (by simp) _) (Nat.le_refl _) q6) (by omega) q7
  have hb47 := below_then HB5.out hb57
  have hd6 : Box W7 w5.heap.size _ := d6.grown q7 (fun e => by injection e with e; omega)
  have hG := HC4.out.2.2.2.2.1.1
  have hsz := HB5.out.size
  have HP7 := Lib.hid (HP5.out.grow hb57)
  have hlt7 : w5.heap.size < W7.heap.size := hd6.1
  obtain ⟨n5, hn5⟩ : ∃ n, l5.length = n := ⟨_, rfl⟩
  obtain ⟨N, hN⟩ : ∃ n, w5.heap.size = n := ⟨_, rfl⟩
  rw [hn5, hN] at hd6
  rw [hN] at hsz hlt7
  rw [hn5] at HP7
  have HC7 : Hid (Below w.heap.size w W7 ∧ Box W7 (w.heap.size + 1) [.bool nb, .slice B m d] ∧ Box W7 (w.heap.size + 1 + 1) [.bool false, .slice none 0 0, .slice none 0 0] ∧ Box W7 G [.bool ng3, .slice A3 n3 c3] ∧ Box W7 N [.bool ng5, .slice A5 n5 c5] ∧ (G < N ∧ w.heap.size + 1 + 1 < N ∧ w.heap.size ≤ W4.heap.size ∧ w.heap.size + 1 + 1 < W4.heap.size)) := Lib.hid ⟨below_then HC4.out.1 hb47, HC4.out.2.2.1.keep hb47, HC4.out.2.2.2.1.keep hb47, HC4.out.2.2.2.2.1.keep hb47, hd6, by have := HC4.out.2.2.2.2.2; omega⟩
  have HP7' : Hid (IntO W4.heap.size W7 (.agg #[.bool ng5, .slice A5 n5 c5]) p R) := HP7
  have HB7 := Lib.hid hb47
  clear hd6 hsz hlt7 hb57 hb47 d6 d7 q6 q7 HP5 HP7 HB5 HC4 HO4 hG
  rw [hn5, hN]
  clear hn5 hN
  go_upto_region 6 with (first
    | ((with_reducible show wpList _ _ _ (Oper.mk (some 33) (.load 26 _) _ _ _ _ :: _) _ _); refine wp_ld rfl 26 _ rfl (w.heap.size + 1) 0 rfl (HC7.out.2.1) [.bool nb, .slice B m d] (fun j v h => by rcases j with _ | _ | _ | j <;> simp at h ⊢ <;> exact h) dI HI.out.1 HI.out.2 size_Int ?_)
    | ((with_reducible show wpList _ _ _ (Oper.mk (some 34) (.load 26 _) _ _ _ _ :: _) _ _); refine wp_ld rfl 26 _ rfl (G) 0 rfl (HC7.out.2.2.2.1) [.bool ng3, .slice A3 n3 c3] (fun j v h => by rcases j with _ | _ | _ | j <;> simp at h ⊢ <;> exact h) dI HI.out.1 HI.out.2 size_Int ?_)
    | (go_at_call 108; (with_reducible refine (CD2.out _ HB7.out).mono ?_); rintro e8 w8 ⟨v8, rfl, ⟨u3, u4, rfl, hi, hj⟩, hb8⟩; have HP8 := Lib.hid (hi.short HQ2.out.1 HQ2.out.2); obtain ⟨ng8, A8, c8, l8, rfl, -⟩ := hi; obtain ⟨ng9, A9, c9, l9, rfl, -⟩ := hj; have HB8 := Lib.hid hb8; clear hb8)
    | ((with_reducible show wpList _ _ _ (Oper.mk none (.store 26 (.tmp 9) _) _ _ _ _ :: _) _ _); refine wp_st rfl 26 _ _ rfl (w8.heap.size) 0 [_, _] rfl rfl size_Int rfl ((Box.new rfl).alloc _) (Nat.le_refl _) rfl ?_; intro W9 d9 q9)
    | ((with_reducible show wpList _ _ _ (Oper.mk none (.store 26 (.tmp 10) _) _ _ _ _ :: _) _ _); refine wp_st rfl 26 _ _ rfl (w8.heap.size + 1) 0 [_, _] rfl rfl size_Int rfl ((Box.new (by simp)).grown q9 (fun e => by injection e with e; omega)) (Nat.le_refl _) rfl ?_; intro W10 d10 q10))
  have hb57 : Below w8.heap.size w8 W10 := put_facts (put_facts (((Below.refl _ _).alloc (Nat.le_refl _) _).alloc (by simp) _) (Nat.le_refl _) q9) (by omega) q10
  have hb47 := below_then HB8.out hb57
  have hd6 : Box W10 w8.heap.size _ := d9.grown q10 (fun e => by injection e with e; omega)
  have hG := HC7.out.2.2.2.2.1.1
  have hsz := HB8.out.size
  have HP9 := Lib.hid (HP8.out.grow hb57)
  obtain ⟨n8, hn8⟩ : ∃ n, l8.length = n := ⟨_, rfl⟩
  obtain ⟨D, hD⟩ : ∃ n, w8.heap.size = n := ⟨_, rfl⟩
  rw [hn8, hD] at hd6
  rw [hD] at hsz
  rw [hn8] at HP9
  have HC10 : Hid (Below w.heap.size w W10 ∧ Box W10 (w.heap.size + 1 + 1) [.bool false, .slice none 0 0, .slice none 0 0] ∧ Box W10 N [.bool ng5, .slice A5 n5 c5] ∧ Box W10 D [.bool ng8, .slice A8 n8 c8] ∧ (N < D ∧ w.heap.size + 1 + 1 < N ∧ w.heap.size ≤ W4.heap.size ∧ w.heap.size + 1 + 1 < W4.heap.size)) := Lib.hid ⟨below_then HC7.out.1 hb47, HC7.out.2.2.1.keep hb47, HC7.out.2.2.2.2.1.keep hb47, hd6, by have := HC7.out.2.2.2.2.2; omega⟩
  have HN : Hid (IntO W4.heap.size W10 (.agg #[.bool ng5, .slice A5 n5 c5]) p R) := Lib.hid (HP7'.out.grow hb47)
  have HD : Hid (IntO W7.heap.size W10 (.agg #[.bool ng8, .slice A8 n8 c8]) q R ∧ W4.heap.size ≤ W7.heap.size ∧ N < W7.heap.size) := Lib.hid ⟨HP9.out, HB7.out.size, hG⟩
  clear hd6 hsz hb57 hb47 d9 d10 q9 q10 HP8 HP9 HB8 HC7 hG CD1 CD2 HP7'
  rw [hn8, hD]
  clear hn8 hD
  have z0 : W10.cell? ⟨D, 0, none⟩ = some (.bool ng8) := HC10.out.2.2.2.1.2.1 0
  cases ng8 with
  | false =>
    have z1 : W10.cell? ⟨D, 1, none⟩ = some (.slice A8 n8 c8) := HC10.out.2.2.2.1.2.1 1
    go_wp2_with (first
      | ((with_reducible show wpList _ _ _ (Oper.mk (some 43) (.load 26 _) _ _ _ _ :: _) _ _); refine wp_ld rfl 26 _ rfl (N) 0 rfl (HC10.out.2.2.1) [.bool ng5, .slice A5 n5 c5] (fun j v h => by rcases j with _ | _ | _ | j <;> simp at h ⊢ <;> exact h) dI HI.out.1 HI.out.2 size_Int ?_)
      | ((with_reducible show wpList _ _ _ (Oper.mk none (.store 28 _ _) _ _ _ _ :: _) _ _); refine wp_st rfl 28 _ _ rfl (w.heap.size + 1 + 1) 0 [_, _, _] rfl rfl size_Rat rfl (HC10.out.2.1) (Nat.le_refl _) rfl ?_; intro W9 c9 g9))
    obtain ⟨lN, oN, nN, eN, kN, sN⟩ := HN.out.low (l := l5)
    obtain ⟨lD, oD, nD, eD, kD, sD⟩ := HD.out.1.low (l := l8)
    have hlt := HC10.out.2.2.2.2
    have hld := HD.out.2
    have hW := put_facts (g := w.heap.size + 1 + 1) HC10.out.1 (by omega) g9
    have oN1 := (oN.away g9 (by omega)).base (base' := w.heap.size) (by omega)
    have oD1 := (oD.away g9 (by omega)).base (base' := w.heap.size) (by omega)
    have hp0 := sgn_pos oD.dig sD HQR.out.2
    refine bodyPost_ret (resC rfl _ _ W9 (g := w.heap.size + 1 + 1) rfl (res_box 28 c9 dsR HRR.out.1 HRR.out.2 size_Rat)) rfl ?_
    exact ⟨_, p, nv lD, rfl, ⟨ng5, A5, c5, lN, A8, c8, lD, by rw [eN, eD]; rfl, ⟨by rw [eN]; exact oN1, nN, by rw [eN]; have := HRM.out; omega, sN⟩, by rw [eD]; exact oD1, nD, by rw [eD]; have := HRM.out; omega, rfl⟩, hp0, by rw [← HQR.out.1]; exact ((div_sgn sD hp0).1 rfl).symm, HDN.out _ _ sD hp0, hW⟩
  | true =>
    have CN : Hid (Calls Try.prog 109 #[.agg #[.bool ng5, .slice A5 n5 c5]] W10 (RetI W10 (-p) R)) := Lib.hid (r2_Neg _ p R w.heap.size W10 HN.out.intB (by have := HM.out; omega))
    go_upto_region 8 with (first
      | ((with_reducible show wpList _ _ _ (Oper.mk (some 41) (.load 26 _) _ _ _ _ :: _) _ _); refine wp_ld rfl 26 _ rfl (N) 0 rfl (HC10.out.2.2.1) [.bool ng5, .slice A5 n5 c5] (fun j v h => by rcases j with _ | _ | _ | j <;> simp at h ⊢ <;> exact h) dI HI.out.1 HI.out.2 size_Int ?_)
      | (go_at_call 109; (with_reducible refine CN.out.mono ?_); rintro e11 w11 ⟨v11, rfl, hi, hb11⟩; have HO11 := Lib.hid hi; obtain ⟨ng11, A11, c11, l11, rfl, -⟩ := hi; have HB11 := Lib.hid hb11; clear hb11)
      | ((with_reducible show wpList _ _ _ (Oper.mk none (.store 26 (.tmp 6) _) _ _ _ _ :: _) _ _); refine wp_st rfl 26 _ _ rfl (N) 0 [_, _] rfl rfl size_Int rfl (HC10.out.2.2.1.keep HB11.out) (Nat.le_refl _) rfl ?_; intro W12 d12 q12))
    have hD1 : Box W12 D [.bool true, .slice A8 n8 c8] := (HC10.out.2.2.2.1.keep HB11.out).grown q12 (fun e => by have := HC10.out.2.2.2.2; injection e with e; omega)
    have hb12 := put_facts (g := N) (below_then HC10.out.1 HB11.out) (by have := HC10.out.2.2.2.2; omega) q12
    have HD1 : Hid (IntO W7.heap.size W12 (.agg #[.bool true, .slice A8 n8 c8]) q R) := Lib.hid ((HD.out.1.grow HB11.out).away q12 HD.out.2.2)
    have HN1 : Hid (IntO W10.heap.size W12 (.agg #[.bool ng11, .slice A11 l11.length c11]) (-p) R) := Lib.hid (HO11.out.away q12 HC10.out.2.2.1.1)
    have hr1 : Box W12 (w.heap.size + 1 + 1) [.bool false, .slice none 0 0, .slice none 0 0] := (HC10.out.2.1.keep HB11.out).grown q12 (fun e => by have := HC10.out.2.2.2.2; injection e with e; omega)
    have HC12 := Lib.hid (And.intro hb12 (And.intro d12 (And.intro hD1 hr1)))
    have HS12 : Hid (w.heap.size + 1 + 1 < W10.heap.size) := Lib.hid HC10.out.2.1.1
    clear hb12 d12 hD1 hr1 q12 HB11 HO11 CN z0
    obtain ⟨n11, hn11⟩ : ∃ n, l11.length = n := ⟨_, rfl⟩
    rw [hn11] at HN1 HC12 ⊢
    clear hn11
    have z1 : W12.cell? ⟨D, 1, none⟩ = some (.slice A8 n8 c8) := HC12.out.2.2.1.2.1 1
    go_wp2_with (first
      | ((with_reducible show wpList _ _ _ (Oper.mk (some 43) (.load 26 _) _ _ _ _ :: _) _ _); refine wp_ld rfl 26 _ rfl (N) 0 rfl (HC12.out.2.1) [.bool ng11, .slice A11 n11 c11] (fun j v h => by rcases j with _ | _ | _ | j <;> simp at h ⊢ <;> exact h) dI HI.out.1 HI.out.2 size_Int ?_)
      | ((with_reducible show wpList _ _ _ (Oper.mk none (.store 28 _ _) _ _ _ _ :: _) _ _); refine wp_st rfl 28 _ _ rfl (w.heap.size + 1 + 1) 0 [_, _, _] rfl rfl size_Rat rfl (HC12.out.2.2.2) (Nat.le_refl _) rfl ?_; intro W9 c9 g9))
    obtain ⟨lN, oN, nN, eN, kN, sN⟩ := HN1.out.low (l := l5)
    obtain ⟨lD, oD, nD, eD, kD, sD⟩ := HD1.out.low (l := l8)
    have hlt := HC10.out.2.2.2.2
    have hld := HD.out.2
    have hls := HS12.out
    have hW := put_facts (g := w.heap.size + 1 + 1) HC12.out.1 (by omega) g9
    have oN1 := (oN.away g9 (by omega)).base (base' := w.heap.size) (by omega)
    have oD1 := (oD.away g9 (by omega)).base (base' := w.heap.size) (by omega)
    have hp0 := sgn_pos oD.dig sD HQR.out.2
    refine bodyPost_ret (resC rfl _ _ W9 (g := w.heap.size + 1 + 1) rfl (res_box 28 c9 dsR HRR.out.1 HRR.out.2 size_Rat)) rfl ?_
    exact ⟨_, -p, nv lD, rfl, ⟨ng11, A11, c11, lN, A8, c8, lD, by rw [eN, eD]; rfl, ⟨by rw [eN]; exact oN1, nN, by rw [eN]; have := HRM.out; omega, sN⟩, by rw [eD]; exact oD1, nD, by rw [eD]; have := HRM.out; omega, rfl⟩, hp0, by rw [← HQR.out.1]; exact ((div_sgn sD hp0).2 rfl).symm, HDN.out _ _ sD hp0, hW⟩
end Go.Proofs.Ytmdfgidejdiiiaa
end
section
namespace Go.Proofs.Ytmdfgidejdiiiaa
open Go.RowKit
set_option maxRecDepth 100000 in
set_option maxHeartbeats 4000000 in
theorem r3_Frac (x y : Int) (w : World) (hx : I64 x) (hy : I64 y) : Calls Try.prog 53 #[.int .i64 x, .int .i64 y] w (RetQ w ((x : Rat) / (y : Rat)) 2) := by
  have CX : Hid (∀ w1, Calls Try.prog 84 #[.int .i64 x] w1 (RetI w1 x 2)) := Lib.hid fun w1 => r2_Of x w1 hx
  have CY : Hid (∀ w1, Calls Try.prog 84 #[.int .i64 y] w1 (RetI w1 y 2)) := Lib.hid fun w1 => r2_Of y w1 hy
  have CR : Hid (∀ v u b b' w1, IntB b w1 v x 2 → IntB b' w1 u y 2 → Calls Try.prog 73 #[v, u] w1 (RetQ w1 ((x : Rat) / (y : Rat)) 2)) := Lib.hid fun v u b b' w1 h h' => (r3_reduce v u x y 2 2 b b' w1 h h' (by decide) (by decide) (by decide) (by decide)).mono fun _ _ h => h.retQ
  clear hx hy
  obtain ⟨dI, hI1, hI2⟩ := row_Int
  have HI := Lib.hid (And.intro hI1 hI2)
  clear hI1 hI2
  obtain ⟨dsR, hR1, hR2⟩ := row_Rat
  have HRR := Lib.hid (And.intro hR1 hR2)
  clear hR1 hR2
  go_enter Try.func53, Try.ntmps53
  go_upto_region 1 with fail
  have hB0 : Below w.heap.size w (w.alloc (.cells #[.bool false, .slice none 0 0, .slice none 0 0] 28)) := ((Below.refl _ _).alloc (Nat.le_refl _) _)
  have bx0 : Box (w.alloc (.cells #[.bool false, .slice none 0 0, .slice none 0 0] 28)) (w.heap.size) [.bool false, .slice none 0 0, .slice none 0 0] := (Box.new (by simp))
  generalize w.alloc (.cells #[.bool false, .slice none 0 0, .slice none 0 0] 28) = wA at hB0 bx0 ⊢
  have HA := Lib.hid (And.intro hB0 bx0)
  clear hB0 bx0
  go_wp2_with (first
    | (go_at_call 84; first
      | (with_reducible refine (CX.out _).mono ?_); rintro e1 w1 ⟨v1, rfl, hi, hb1⟩; have HO1 := Lib.hid hi; obtain ⟨ng1, A1, c1, l1, rfl, -⟩ := hi; have HB1 := Lib.hid hb1; clear hb1
      | (with_reducible refine (CY.out _).mono ?_); rintro e2 w2 ⟨v2, rfl, hi, hb2⟩; have HO2 := Lib.hid hi; obtain ⟨ng2, A2, c2, l2, rfl, -⟩ := hi; have HB2 := Lib.hid hb2; clear hb2)
    | (go_at_call 73; (with_reducible refine (CR.out _ _ w.heap.size w.heap.size _ (HO1.out.grow HB2.out).intB HO2.out.intB).mono ?_); rintro e3 w3 ⟨v3, rfl, hq, hb3⟩; have HQ3 := Lib.hid hq; obtain ⟨g3, A3, n3, c3, B3, m3, d3, rfl⟩ := hq.form; have HB3 := Lib.hid hb3; clear hq hb3)
    | ((with_reducible show wpList _ _ _ (Oper.mk none (.store 28 _ _) _ _ _ _ :: _) _ _); refine wp_st rfl 28 _ _ rfl (w.heap.size) 0 [_, _, _] rfl rfl size_Rat rfl (((HA.out.2.keep HB1.out).keep HB2.out).keep HB3.out) (Nat.le_refl _) rfl ?_; intro W9 c9 g9))
  have hb := below_then HB1.out HB2.out
  have hW := put_facts (g := w.heap.size) (below_then HA.out.1 (below_then hb HB3.out)) (Nat.le_refl _) g9
  have hq := (HQ3.out.away g9 (Nat.lt_of_lt_of_le HA.out.2.1 hb.size)).base (b' := w.heap.size) ((below_then HA.out.1 hb).size)
  refine bodyPost_ret (resC rfl _ _ W9 (g := w.heap.size) rfl (res_box 28 c9 dsR HRR.out.1 HRR.out.2 size_Rat)) rfl ?_
  exact ⟨_, rfl, hq, hW⟩
end Go.Proofs.Ytmdfgidejdiiiaa
end
