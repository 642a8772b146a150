/- Reference of words: Integer. Printed by gen_iz.py. -/
import Derived.Test.YtmdfgidejdiiiaanIytoJg
set_option linter.unusedVariables false
set_option linter.unusedSimpArgs false
namespace Go.Proofs.Ytmdfgidejdiiiaa
open Go.RowKit
theorem rat_lt_succ {z : Rat} {b : Int} (h : z ≤ (b : Rat)) : z < ((b + 1 : Int) : Rat) := by
  refine Rat.not_le.1 fun h' => ?_
  have := Rat.intCast_le_intCast.1 (Rat.le_trans h' h)
  omega
def intF (z : Rat) : Int × Bool := if ((1099511627776 : Int) : Rat) < z ∨ z < ((-1099511627776 : Int) : Rat) then (0, false) else (z.floor, true)
theorem cmpR_gt {x y : Rat} : 0 < cmpR x y ↔ y < x := by
  unfold cmpR
  by_cases h : x < y
  · rw [if_pos h]
    exact ⟨fun e => by omega, fun e => absurd e (Rat.not_lt.2 (Rat.le_of_lt h))⟩
  · rw [if_neg h]
    by_cases e : x = y
    · rw [if_pos e]; subst e
      exact ⟨fun e => by omega, fun e => absurd e Rat.lt_irrefl⟩
    · rw [if_neg e]
      exact ⟨fun _ => Rat.lt_of_le_of_ne (Rat.not_lt.1 h) (fun h => e h.symm), fun _ => by decide⟩
theorem cmpR_lt {x y : Rat} : cmpR x y < 0 ↔ x < y := by
  unfold cmpR
  by_cases h : x < y
  · rw [if_pos h]
    exact ⟨fun _ => h, fun _ => by decide⟩
  · rw [if_neg h]
    by_cases e : x = y
    · rw [if_pos e]; exact ⟨fun e => by omega, fun e => absurd e h⟩
    · rw [if_neg e]; exact ⟨fun e => by omega, fun e => absurd e h⟩
theorem cmpR_le {x y : Rat} : cmpR x y ≤ 0 ↔ x ≤ y := by
  rw [← Rat.not_lt, ← cmpR_gt]
  omega
set_option maxRecDepth 100000 in
set_option maxHeartbeats 4000000 in
theorem r21_Integer (v : Value) (z : Rat) (K : Nat) (w : World) (hx : RatA w v z K) (hK : 1 ≤ K) (h9 : K ≤ 400000) : Calls Try.prog 54 #[v] w fun e w' => e = .returned (.tuple #[.int .i64 (intF z).1, .bool (intF z).2]) ∧ Below w.heap.size w w' := by
  obtain ⟨neg, A, n, c, l, B, m, d, r, rfl, hxx⟩ := hx
  have hx : RatA w (.agg #[.bool neg, .slice A n c, .slice B m d]) z K := ⟨neg, A, n, c, l, B, m, d, r, rfl, hxx⟩
  have CC0 : Hid (∀ u q w1 b, Below w.heap.size w w1 → RatQ b w1 u ((q : Int) : Rat) 2 → Calls Try.prog 13 #[u, .agg #[.bool neg, .slice A n c, .slice B m d]] w1 fun e w' => e = .returned (.int .i64 (cmpR (q : Rat) z)) ∧ Below w1.heap.size w1 w') := Lib.hid fun u q w1 b hb hu => r3_Compare u _ _ z 2 K w1 hu.arg (hx.grow hb) (by decide) hK (by decide) h9
  have CC1 : Hid (∀ u w1 b, Below w.heap.size w w1 → RatQ b w1 u ((1099511627776 : Int) : Rat) 2 → Calls Try.prog 13 #[.agg #[.bool neg, .slice A n c, .slice B m d], u] w1 fun e w' => e = .returned (.int .i64 (cmpR z ((1099511627776 : Int) : Rat))) ∧ Below w1.heap.size w1 w') := Lib.hid fun u w1 b hb hu => r3_Compare _ u z _ K 2 w1 (hx.grow hb) hu.arg hK (by decide) h9 (by decide)
  have CC2 : Hid (∀ u w1 b, Below w.heap.size w w1 → RatQ b w1 u ((-1099511627776 : Int) : Rat) 2 → Calls Try.prog 13 #[.agg #[.bool neg, .slice A n c, .slice B m d], u] w1 fun e w' => e = .returned (.int .i64 (cmpR z ((-1099511627776 : Int) : Rat))) ∧ Below w1.heap.size w1 w') := Lib.hid fun u w1 b hb hu => r3_Compare _ u z _ K 2 w1 (hx.grow hb) hu.arg hK (by decide) h9 (by decide)
  have CO1 : Hid (∀ w1, Calls Try.prog 38 #[.int .i64 (1099511627776)] w1 (RetQ w1 ((1099511627776 : Int) : Rat) 2)) := Lib.hid fun w1 => r3_Of (1099511627776) w1 (by unfold I64; omega)
  have CO2 : Hid (∀ w1, Calls Try.prog 38 #[.int .i64 (-1099511627776)] w1 (RetQ w1 ((-1099511627776 : Int) : Rat) 2)) := Lib.hid fun w1 => r3_Of (-1099511627776) w1 (by unfold I64; omega)
  clear hxx hx
  obtain ⟨dsR, hR1, hR2⟩ := row_Rat
  have HRR := Lib.hid (And.intro hR1 hR2)
  clear hR1 hR2
  by_cases h1 : ((1099511627776 : Int) : Rat) < z
  · have hi : intF z = (0, false) := if_pos (.inl h1)
    rw [hi]
    obtain ⟨c1, hc1⟩ : ∃ c, cmpR z ((1099511627776 : Int) : Rat) = c := ⟨_, rfl⟩
    have hp : 0 < c1 := hc1 ▸ cmpR_gt.2 h1
    rw [hc1] at CC1
    have hd : decide (0 < c1) = true := decide_eq_true hp
    clear hi hc1 h1
    go_enter Try.func54, Try.ntmps54
    go_upto_region 1 with fail
    have hB0 : Below w.heap.size w (w.alloc (.cells #[.bool neg, .slice A n c, .slice B m d] 28)) := ((Below.refl _ _).alloc (Nat.le_refl _) _)
    have bx0 : Box (w.alloc (.cells #[.bool neg, .slice A n c, .slice B m d] 28)) (w.heap.size) [.bool neg, .slice A n c, .slice B m d] := (Box.new (by simp))
    generalize w.alloc (.cells #[.bool neg, .slice A n c, .slice B m d] 28) = wA at hB0 bx0 ⊢
    have HA := Lib.hid (And.intro hB0 bx0)
    clear hB0 bx0
    refine wp_region_growG (fun i => Nat.blt i 9) (fun w9 => Below wA.heap.size wA w9) (gT [.v (.agg #[.bool neg, .slice A n c, .slice B m d]), .rq ((1099511627776 : Int) : Rat) 2, .v (.int .i64 c1), .v (.bool true), .v (.bool true), .any, .any, .any, .any]) (fun a b => Below a.heap.size a b) (dT wA.heap.size [.v (.agg #[.bool neg, .slice A n c, .slice B m d]), .rq ((1099511627776 : Int) : Rat) 2, .v (.int .i64 c1), .v (.bool true), .v (.bool true), .any, .any, .any, .any]) (by kernel_rfl) (by kernel_rfl) (Below.refl _ _).drew (fun j x a b h1 h2 => ⟨below_then h1 h2.1, fun i _ v => dT_keep h2.1 i v, Below.refl _ _, fun w0 h => below_then h h2.1⟩) ?_ ?_
    · refine ⟨?_, ?_, ?_, ?_, ?_, ?_, ?_, ?_, ?_, trivial⟩
      all_goals
        intro vs w9 hp hF
        have HP := Lib.hid hp
        clear hp
        simp [depsB, Region.binds, dT] at hF
        simp [stL, depsB, Region.binds, Act.put, hF]
      · (obtain ⟨dI, hI1, hI2⟩ := row_Rat; refine wp_ld rfl 28 _ rfl (w.heap.size) 0 rfl (HA.out.2.keep HP.out) [.bool neg, .slice A n c, .slice B m d] (fun j v h => by rcases j with _ | _ | _ | _ | j <;> simp at h ⊢ <;> exact h) dI hI1 hI2 size_Rat ?_; go_wp2_with fail; exact ⟨rfl, Below.refl _ _, nbx rfl⟩)
      · go_wp2_with (go_at_call 38; (with_reducible refine (CO1.out _).mono ?_); rintro e1 w1' ⟨v1, rfl, ho, hb1⟩)
        exact ⟨ho.base HP.out.size, hb1, nbx rfl⟩
      · obtain ⟨e0, hq⟩ := hF
        have HQ := Lib.hid hq
        obtain ⟨g1, A1, n1, c1, B1, m1, d1, e1⟩ := hq.form
        rw [e1] at HQ
        simp only [e0, e1]
        go_wp2_with (go_at_call 13; (with_reducible refine (CC1.out _ _ _ (below_then HA.out.1 HP.out) HQ.out).mono ?_); rintro e1' w1' ⟨rfl, hb1⟩)
        exact ⟨rfl, hb1, nbx rfl⟩
      · (go_wp2_with fail; exact ⟨rfl, Below.refl _ _, nbx rfl⟩)
      · (go_wp2_with fail; exact ⟨rfl, Below.refl _ _, nbx rfl⟩)
      · ((with_reducible refine wpList_skip (by kernel_rfl) ?_); exact ⟨rfl, undef, rfl, trivial, Below.refl _ _, nbx rfl⟩)
      · ((with_reducible refine wpList_skip (by kernel_rfl) ?_); exact ⟨rfl, undef, rfl, trivial, Below.refl _ _, nbx rfl⟩)
      · ((with_reducible refine wpList_skip (by kernel_rfl) ?_); exact ⟨rfl, undef, rfl, trivial, Below.refl _ _, nbx rfl⟩)
      · ((with_reducible refine wpList_skip (by kernel_rfl) ?_); exact ⟨rfl, undef, rfl, trivial, Below.refl _ _, nbx rfl⟩)
    intro vs w9 hp hF hpr
    have e4 : vs 4 = .bool true := hF 4 (by decide) rfl
    have HBE := Lib.hid hp
    clear hF hpr hp
    show wpList Try.prog _ _ [_] _ _
    simp [stL, Act.put, e4]
    go_wp2_with fail
    refine bodyPost_ret (results_tmp2 rfl _ _ _) rfl ?_
    exact ⟨rfl, below_then HA.out.1 HBE.out⟩
  have h1' : ¬ 0 < cmpR z ((1099511627776 : Int) : Rat) := fun h => h1 (cmpR_gt.1 h)
  obtain ⟨c1, hc1⟩ : ∃ c, cmpR z ((1099511627776 : Int) : Rat) = c := ⟨_, rfl⟩
  rw [hc1] at CC1 h1'
  have hd1 : decide (0 < c1) = false := decide_eq_false h1'
  have HZ1 := Lib.hid h1
  clear h1 hc1
  by_cases h2 : z < ((-1099511627776 : Int) : Rat)
  · have hi : intF z = (0, false) := if_pos (.inr h2)
    rw [hi]
    obtain ⟨c2, hc2⟩ : ∃ c, cmpR z ((-1099511627776 : Int) : Rat) = c := ⟨_, rfl⟩
    have hp : c2 < 0 := hc2 ▸ cmpR_lt.2 h2
    rw [hc2] at CC2
    have hd2 : decide (c2 < 0) = true := decide_eq_true hp
    clear hi hc2 h2
    go_enter Try.func54, Try.ntmps54
    go_upto_region 1 with fail
    have hB0 : Below w.heap.size w (w.alloc (.cells #[.bool neg, .slice A n c, .slice B m d] 28)) := ((Below.refl _ _).alloc (Nat.le_refl _) _)
    have bx0 : Box (w.alloc (.cells #[.bool neg, .slice A n c, .slice B m d] 28)) (w.heap.size) [.bool neg, .slice A n c, .slice B m d] := (Box.new (by simp))
    generalize w.alloc (.cells #[.bool neg, .slice A n c, .slice B m d] 28) = wA at hB0 bx0 ⊢
    have HA := Lib.hid (And.intro hB0 bx0)
    clear hB0 bx0
    refine wp_region_growG (fun i => Nat.blt i 9) (fun w9 => Below wA.heap.size wA w9) (gT [.v (.agg #[.bool neg, .slice A n c, .slice B m d]), .rq ((1099511627776 : Int) : Rat) 2, .v (.int .i64 c1), .v (.bool false), .v (.bool false), .v (.agg #[.bool neg, .slice A n c, .slice B m d]), .rq ((-1099511627776 : Int) : Rat) 2, .v (.int .i64 c2), .v (.bool true)]) (fun a b => Below a.heap.size a b) (dT wA.heap.size [.v (.agg #[.bool neg, .slice A n c, .slice B m d]), .rq ((1099511627776 : Int) : Rat) 2, .v (.int .i64 c1), .v (.bool false), .v (.bool false), .v (.agg #[.bool neg, .slice A n c, .slice B m d]), .rq ((-1099511627776 : Int) : Rat) 2, .v (.int .i64 c2), .v (.bool true)]) (by kernel_rfl) (by kernel_rfl) (Below.refl _ _).drew (fun j x a b h1 h2 => ⟨below_then h1 h2.1, fun i _ v => dT_keep h2.1 i v, Below.refl _ _, fun w0 h => below_then h h2.1⟩) ?_ ?_
    · refine ⟨?_, ?_, ?_, ?_, ?_, ?_, ?_, ?_, ?_, trivial⟩
      all_goals
        intro vs w9 hp hF
        have HP := Lib.hid hp
        clear hp
        simp [depsB, Region.binds, dT] at hF
        simp [stL, depsB, Region.binds, Act.put, hF]
      · (obtain ⟨dI, hI1, hI2⟩ := row_Rat; refine wp_ld rfl 28 _ rfl (w.heap.size) 0 rfl (HA.out.2.keep HP.out) [.bool neg, .slice A n c, .slice B m d] (fun j v h => by rcases j with _ | _ | _ | _ | j <;> simp at h ⊢ <;> exact h) dI hI1 hI2 size_Rat ?_; go_wp2_with fail; exact ⟨rfl, Below.refl _ _, nbx rfl⟩)
      · go_wp2_with (go_at_call 38; (with_reducible refine (CO1.out _).mono ?_); rintro e1 w1' ⟨v1, rfl, ho, hb1⟩)
        exact ⟨ho.base HP.out.size, hb1, nbx rfl⟩
      · obtain ⟨e0, hq⟩ := hF
        have HQ := Lib.hid hq
        obtain ⟨g1, A1, n1, c1, B1, m1, d1, e1⟩ := hq.form
        rw [e1] at HQ
        simp only [e0, e1]
        go_wp2_with (go_at_call 13; (with_reducible refine (CC1.out _ _ _ (below_then HA.out.1 HP.out) HQ.out).mono ?_); rintro e1' w1' ⟨rfl, hb1⟩)
        exact ⟨rfl, hb1, nbx rfl⟩
      · (go_wp2_with fail; exact ⟨rfl, Below.refl _ _, nbx rfl⟩)
      · (go_wp2_with fail; exact ⟨rfl, Below.refl _ _, nbx rfl⟩)
      · (with_reducible refine wpList_want (by kernel_rfl) ?_)
        (obtain ⟨dI, hI1, hI2⟩ := row_Rat; refine wp_ld rfl 28 _ rfl (w.heap.size) 0 rfl (HA.out.2.keep HP.out) [.bool neg, .slice A n c, .slice B m d] (fun j v h => by rcases j with _ | _ | _ | _ | j <;> simp at h ⊢ <;> exact h) dI hI1 hI2 size_Rat ?_; go_wp2_with fail; exact ⟨rfl, Below.refl _ _, nbx rfl⟩)
      · (with_reducible refine wpList_want (by kernel_rfl) ?_)
        go_wp2_with (go_at_call 38; (with_reducible refine (CO2.out _).mono ?_); rintro e1 w1' ⟨v1, rfl, ho, hb1⟩)
        exact ⟨ho.base HP.out.size, hb1, nbx rfl⟩
      · (with_reducible refine wpList_want (by kernel_rfl) ?_)
        obtain ⟨e0, hq, e4⟩ := hF
        have HQ := Lib.hid hq
        obtain ⟨g1, A1, n1, c1, B1, m1, d1, e1⟩ := hq.form
        rw [e1] at HQ
        simp only [e0, e4, e1]
        go_wp2_with (go_at_call 13; (with_reducible refine (CC2.out _ _ _ (below_then HA.out.1 HP.out) HQ.out).mono ?_); rintro e1' w1' ⟨rfl, hb1⟩)
        exact ⟨rfl, hb1, nbx rfl⟩
      · (with_reducible refine wpList_want (by kernel_rfl) ?_)
        (go_wp2_with fail; exact ⟨rfl, Below.refl _ _, nbx rfl⟩)
    intro vs w9 hp hF hpr
    have e4 : vs 4 = .bool false := hF 4 (by decide) rfl
    have e8 : vs 8 = .bool true := hF 8 (by decide) rfl
    have HBE := Lib.hid hp
    clear hF hpr hp
    show wpList Try.prog _ _ [_] _ _
    simp [stL, Act.put, e4, e8]
    go_wp2_with fail
    refine bodyPost_ret (results_tmp2 rfl _ _ _) rfl ?_
    exact ⟨rfl, below_then HA.out.1 HBE.out⟩
  have h2' : ¬ cmpR z ((-1099511627776 : Int) : Rat) < 0 := fun h => h2 (cmpR_lt.1 h)
  obtain ⟨c2, hc2⟩ : ∃ c, cmpR z ((-1099511627776 : Int) : Rat) = c := ⟨_, rfl⟩
  rw [hc2] at CC2 h2'
  have hd2 : decide (c2 < 0) = false := decide_eq_false h2'
  have HI : Hid (intF z = (z.floor, true)) := Lib.hid (if_neg (fun h => h.elim HZ1.out h2))
  have HZ2 := Lib.hid h2
  clear h2 hc2
  rw [HI.out]
  go_enter Try.func54, Try.ntmps54
  go_upto_region 1 with fail
  have hB0 : Below w.heap.size w (w.alloc (.cells #[.bool neg, .slice A n c, .slice B m d] 28)) := ((Below.refl _ _).alloc (Nat.le_refl _) _)
  have bx0 : Box (w.alloc (.cells #[.bool neg, .slice A n c, .slice B m d] 28)) (w.heap.size) [.bool neg, .slice A n c, .slice B m d] := (Box.new (by simp))
  generalize w.alloc (.cells #[.bool neg, .slice A n c, .slice B m d] 28) = wA at hB0 bx0 ⊢
  have HA := Lib.hid (And.intro hB0 bx0)
  clear hB0 bx0
  refine wp_region_growG (fun i => Nat.blt i 9) (fun w9 => Below wA.heap.size wA w9) (gT [.v (.agg #[.bool neg, .slice A n c, .slice B m d]), .rq ((1099511627776 : Int) : Rat) 2, .v (.int .i64 c1), .v (.bool false), .v (.bool false), .v (.agg #[.bool neg, .slice A n c, .slice B m d]), .rq ((-1099511627776 : Int) : Rat) 2, .v (.int .i64 c2), .v (.bool false)]) (fun a b => Below a.heap.size a b) (dT wA.heap.size [.v (.agg #[.bool neg, .slice A n c, .slice B m d]), .rq ((1099511627776 : Int) : Rat) 2, .v (.int .i64 c1), .v (.bool false), .v (.bool false), .v (.agg #[.bool neg, .slice A n c, .slice B m d]), .rq ((-1099511627776 : Int) : Rat) 2, .v (.int .i64 c2), .v (.bool false)]) (by kernel_rfl) (by kernel_rfl) (Below.refl _ _).drew (fun j x a b h1 h2 => ⟨below_then h1 h2.1, fun i _ v => dT_keep h2.1 i v, Below.refl _ _, fun w0 h => below_then h h2.1⟩) ?_ ?_
  · refine ⟨?_, ?_, ?_, ?_, ?_, ?_, ?_, ?_, ?_, trivial⟩
    all_goals
      intro vs w9 hp hF
      have HP := Lib.hid hp
      clear hp
      simp [depsB, Region.binds, dT] at hF
      simp [stL, depsB, Region.binds, Act.put, hF]
    · (obtain ⟨dI, hI1, hI2⟩ := row_Rat; refine wp_ld rfl 28 _ rfl (w.heap.size) 0 rfl (HA.out.2.keep HP.out) [.bool neg, .slice A n c, .slice B m d] (fun j v h => by rcases j with _ | _ | _ | _ | j <;> simp at h ⊢ <;> exact h) dI hI1 hI2 size_Rat ?_; go_wp2_with fail; exact ⟨rfl, Below.refl _ _, nbx rfl⟩)
    · go_wp2_with (go_at_call 38; (with_reducible refine (CO1.out _).mono ?_); rintro e1 w1' ⟨v1, rfl, ho, hb1⟩)
      exact ⟨ho.base HP.out.size, hb1, nbx rfl⟩
    · obtain ⟨e0, hq⟩ := hF
      have HQ := Lib.hid hq
      obtain ⟨g1, A1, n1, c1, B1, m1, d1, e1⟩ := hq.form
      rw [e1] at HQ
      simp only [e0, e1]
      go_wp2_with (go_at_call 13; (with_reducible refine (CC1.out _ _ _ (below_then HA.out.1 HP.out) HQ.out).mono ?_); rintro e1' w1' ⟨rfl, hb1⟩)
      exact ⟨rfl, hb1, nbx rfl⟩
    · (go_wp2_with fail; exact ⟨rfl, Below.refl _ _, nbx rfl⟩)
    · (go_wp2_with fail; exact ⟨rfl, Below.refl _ _, nbx rfl⟩)
    · (with_reducible refine wpList_want (by kernel_rfl) ?_)
      (obtain ⟨dI, hI1, hI2⟩ := row_Rat; refine wp_ld rfl 28 _ rfl (w.heap.size) 0 rfl (HA.out.2.keep HP.out) [.bool neg, .slice A n c, .slice B m d] (fun j v h => by rcases j with _ | _ | _ | _ | j <;> simp at h ⊢ <;> exact h) dI hI1 hI2 size_Rat ?_; go_wp2_with fail; exact ⟨rfl, Below.refl _ _, nbx rfl⟩)
    · (with_reducible refine wpList_want (by kernel_rfl) ?_)
      go_wp2_with (go_at_call 38; (with_reducible refine (CO2.out _).mono ?_); rintro e1 w1' ⟨v1, rfl, ho, hb1⟩)
      exact ⟨ho.base HP.out.size, hb1, nbx rfl⟩
    · (with_reducible refine wpList_want (by kernel_rfl) ?_)
      obtain ⟨e0, hq, e4⟩ := hF
      have HQ := Lib.hid hq
      obtain ⟨g1, A1, n1, c1, B1, m1, d1, e1⟩ := hq.form
      rw [e1] at HQ
      simp only [e0, e4, e1]
      go_wp2_with (go_at_call 13; (with_reducible refine (CC2.out _ _ _ (below_then HA.out.1 HP.out) HQ.out).mono ?_); rintro e1' w1' ⟨rfl, hb1⟩)
      exact ⟨rfl, hb1, nbx rfl⟩
    · (with_reducible refine wpList_want (by kernel_rfl) ?_)
      (go_wp2_with fail; exact ⟨rfl, Below.refl _ _, nbx rfl⟩)
  intro vs w9 hp hF hpr
  have e4 : vs 4 = .bool false := hF 4 (by decide) rfl
  have e8 : vs 8 = .bool false := hF 8 (by decide) rfl
  have HBE := Lib.hid hp
  clear hF hpr hp
  show wpList Try.prog _ _ [_] _ _
  simp [stL, Act.put, e4, e8]
  have hb9 := below_then HA.out.1 HBE.out
  have HB9 := Lib.hid hb9
  have HX9 := Lib.hid (HA.out.2.keep HBE.out)
  clear hb9
  go_wp2_with fail
  go_loopw [4, 5] (fun lo hi wr => ∃ a b : Int, lo = .int .i64 a ∧ hi = .int .i64 b ∧ (-1099511627776 ≤ a ∧ a ≤ b ∧ b ≤ 1099511627776) ∧ Hid ((a : Rat) ≤ z ∧ z < ((b + 1 : Int) : Rat)) ∧ Hid (Below w.heap.size w wr) ∧ Hid (Box wr w.heap.size [.bool neg, .slice A n c, .slice B m d])) (fun lo hi _ => (intOf hi - intOf lo).toNat)
  case atStart => exact ⟨-1099511627776, 1099511627776, rfl, rfl, by omega, Lib.hid ⟨Rat.not_lt.1 HZ2.out, rat_lt_succ (Rat.not_lt.1 HZ1.out)⟩, HB9, HX9⟩
  case round =>
    obtain ⟨a, b, rfl, rfl, ⟨a1, a2, a3⟩, HV, HBR, HXR⟩ := hrel
    by_cases hlt : a < b
    · obtain ⟨mid, hmid⟩ : ∃ x, a + (b - a + 1) / 2 = x := ⟨_, rfl⟩
      have m1 : a < mid ∧ mid ≤ b := by omega
      have hw1 : wrap64 (b - a) = b - a := by unfold wrap64; omega
      have hw2 : wrap64 (b - a + 1) = b - a + 1 := by unfold wrap64; omega
      have hw3 : (b - a + 1).tdiv 2 = (b - a + 1) / 2 := Int.tdiv_eq_ediv_of_nonneg (by omega)
      go_upto_region 6 with fail
      have hmi : I64 mid := by unfold I64; omega
      have COM : Hid (∀ w1, Calls Try.prog 38 #[.int .i64 mid] w1 (RetQ w1 (mid : Rat) 2)) := Lib.hid fun w1 => r3_Of mid w1 hmi
      obtain ⟨cm, hcm⟩ : ∃ c, cmpR (mid : Rat) z = c := ⟨_, rfl⟩
      have CCM : Hid (∀ u w1 b, Below w.heap.size w w1 → RatQ b w1 u (mid : Rat) 2 → Calls Try.prog 13 #[u, .agg #[.bool neg, .slice A n c, .slice B m d]] w1 fun e w' => e = .returned (.int .i64 cm) ∧ Below w1.heap.size w1 w') := Lib.hid fun u w1 b hb hu => by
        rw [← hcm]
        exact CC0.out u mid w1 b hb hu
      have HCM := Lib.hid hcm
      have HMM : Hid (a < mid ∧ mid ≤ b ∧ -1099511627776 ≤ a ∧ b ≤ 1099511627776) := Lib.hid ⟨m1.1, m1.2, a1, a3⟩
      clear hcm hmid hw1 hw2 hw3 hlt hmi
      refine wp_region_grow7 (fun i => Nat.blt i 4) (fun _ => false) (fun w9 => Below wr.heap.size wr w9) (gT [.v (.int .i64 mid), .rq (mid : Rat) 2, .v (.agg #[.bool neg, .slice A n c, .slice B m d]), .v (.int .i64 cm)]) (fun a b => Below a.heap.size a b) (dT wr.heap.size [.v (.int .i64 mid), .rq (mid : Rat) 2, .v (.agg #[.bool neg, .slice A n c, .slice B m d]), .v (.int .i64 cm)]) (by kernel_rfl) (by kernel_rfl) (Below.refl _ _).drew (fun j x a b h1 h2 => ⟨below_then h1 h2.1, fun i _ v => dT_keep h2.1 i v, Below.refl _ _, fun w0 h => below_then h h2.1⟩) (fun j v w h => by cases h) ?_ (fun j o _ _ h => by cases h) ?_
      · refine ⟨?_, ?_, ?_, ?_, trivial⟩
        all_goals
          intro vs w9 hp hF
          have HP := Lib.hid hp
          clear hp
          simp [depsB, Region.binds, dT] at hF
          simp [stL, depsB, Region.binds, Act.put, hF]
        · (go_wp2_with fail; exact ⟨rfl, Below.refl _ _, nbx rfl⟩)
        · go_wp2_with (go_at_call 38; (with_reducible refine (COM.out _).mono ?_); rintro e1 w1' ⟨v1, rfl, ho, hb1⟩)
          exact ⟨ho.base HP.out.size, hb1, nbx rfl⟩
        · (obtain ⟨dI, hI1, hI2⟩ := row_Rat; refine wp_ld rfl 28 _ rfl (w.heap.size) 0 rfl (HXR.out.keep HP.out) [.bool neg, .slice A n c, .slice B m d] (fun j v h => by rcases j with _ | _ | _ | _ | j <;> simp at h ⊢ <;> exact h) dI hI1 hI2 size_Rat ?_; go_wp2_with fail; exact ⟨rfl, Below.refl _ _, nbx rfl⟩)
        · obtain ⟨hq, e2, -⟩ := hF
          have HQ := Lib.hid hq
          obtain ⟨g1, A1, n1, c1', B1, m1, d1, e1⟩ := hq.form
          rw [e1] at HQ
          simp only [e1, e2]
          go_wp2_with (go_at_call 13; (with_reducible refine (CCM.out _ _ _ (below_then HBR.out HP.out) HQ.out).mono ?_); rintro e1' w1' ⟨rfl, hb1⟩)
          exact ⟨rfl, hb1, nbx rfl⟩
      intro vs w9 hp hF hpr
      have e3 : vs 3 = .int .i64 cm := hF 3 (by decide) rfl
      have HBM := Lib.hid hp
      clear hF hpr hp
      have HXM := Lib.hid (HXR.out.keep HBM.out)
      have HBM2 := Lib.hid (below_then HBR.out HBM.out)
      by_cases hle : cm ≤ 0
      · have HLE : Hid ((mid : Rat) ≤ z) := Lib.hid (cmpR_le.1 (HCM.out ▸ hle))
        show wpList Try.prog _ _ [_] _ _
        simp [stL, Act.put, e3]
        go_wp2_with fail
        go_roundw
        case rel => exact ⟨mid, b, rfl, rfl, (by have := HMM.out; omega), Lib.hid ⟨HLE.out, HV.out.2⟩, HBM2, HXM⟩
        case measure => have := HMM.out; simp [intOf]; omega
      · have HGT : Hid (z < (mid : Rat)) := Lib.hid (Rat.not_le.1 fun h => hle (HCM.out ▸ cmpR_le.2 h))
        have hm2 : -1099511627776 < mid := by have := HMM.out; omega
        have hm3 : mid ≤ 1099511627776 := by have := HMM.out; omega
        have hw4 : wrap64 (mid - 1) = mid - 1 := by unfold wrap64; omega
        show wpList Try.prog _ _ [_] _ _
        simp [stL, Act.put, e3]
        go_wp2_with fail
        go_roundw
        case rel => exact ⟨a, mid - 1, rfl, rfl, (by have := HMM.out; omega), Lib.hid ⟨HV.out.1, by rw [show mid - 1 + 1 = mid by omega]; exact HGT.out⟩, HBM2, HXM⟩
        case measure => have := HMM.out; simp [intOf]; omega
    · obtain rfl : b = a := by omega
      have HFL : Hid (z.floor = b) := Lib.hid (Int.le_antisymm (Int.lt_add_one_iff.1 (Rat.floor_lt_iff.2 HV.out.2)) (Rat.le_floor_iff.2 HV.out.1))
      go_wp2_with fail
      refine bodyPost_ret (results_tmp2 rfl _ _ _) rfl ?_
      exact ⟨by rw [HFL.out]; rfl, HBR.out⟩
end Go.Proofs.Ytmdfgidejdiiiaa
