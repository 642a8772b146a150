/- Reference of words: Nearest. Printed by gen_ka.py. -/
import Derived.Test.YtmdfgidejdiiiaanIz
set_option linter.unusedVariables false
set_option linter.unusedSimpArgs false
namespace Go.Proofs.Ytmdfgidejdiiiaa
open Go.RowKit
def nearI (r : Int) (y : Rat) : Int := if r = 2 then (y + ((1 : Int) : Rat) / ((2 : Int) : Rat)).floor else if r = 3 ∧ y < 0 then -(-y).floor else y.floor
def nearF (b f r o : Int) (x : Rat) : Int × Bool := if fitsW b f r o (nearI r (x * ((2 ^ f.toNat : Int) : Rat))) = true then (nearI r (x * ((2 ^ f.toNat : Int) : Rat)), true) else (0, false)
def NearPost (b f r o : Int) (x : Rat) (w : World) (e : Ending) (w' : World) : Prop := e = .returned (.tuple #[.int .i64 (nearF b f r o x).1, .bool (nearF b f r o x).2]) ∧ Below w.heap.size w w'
theorem RatQ.keptT {b g : Nat} {w w' : World} {v : Value} {z : Rat} {K : Nat} {t : TypeId} (h : RatQ b w v z K) (hg : w.grownBy w' (some g)) (ht : TyB w g t) (hn : t ≠ 77) : RatQ b w' v z K := by
  obtain ⟨p, q, ⟨ng, A, c, l, B, d, r, e, ⟨o, m⟩, o', m'⟩, hr⟩ := h
  exact ⟨p, q, ⟨ng, A, c, l, B, d, r, e, ⟨o.keptT hg ht hn, m⟩, o'.keptT hg ht hn, m'⟩, hr⟩
theorem intF_no {z : Rat} (h : (intF z).2 = false) : ((1099511627776 : Int) : Rat) < z ∨ z < ((-1099511627776 : Int) : Rat) := by
  unfold intF at h
  split at h
  · assumption
  · cases h
theorem intF_yes {z : Rat} (h : (intF z).2 = true) : (intF z).1 = z.floor := by
  unfold intF at h ⊢
  split at h
  · cases h
  · rename_i hn
    rw [if_neg hn]
theorem fits_big {b f r o t : Int} (h : 1073741824 ≤ t ∨ t ≤ -1073741824) : fitsW b f r o t = false := by
  cases hk : okW b f r o with
  | false => unfold fitsW; rw [hk]; rfl
  | true =>
    have h1 := okW_iff.1 hk
    have h2 := pow_up (s := (b - 1).toNat) (by omega)
    have h3 : (2 : Int) ^ (b - 1).toNat ≤ 8388608 := by
      have : (b - 1).toNat ≤ 23 := by omega
      have := Nat.pow_le_pow_right (n := 2) (by decide) this
      rw [pow2_nat]
      omega
    unfold fitsW lowW highW inB
    rw [hk, if_pos rfl, if_pos rfl]
    simp only [Bool.true_and, Bool.and_eq_false_iff, decide_eq_false_iff_not]
    omega
theorem floor_big {z : Rat} (h : ((1099511627776 : Int) : Rat) < z ∨ z < ((-1099511627776 : Int) : Rat)) : 1099511627776 ≤ z.floor ∨ z.floor ≤ -1099511627776 := by
  rcases h with h | h
  · exact .inl (Rat.le_floor_iff.2 (Rat.le_of_lt h))
  · refine .inr ?_
    have := Rat.floor_lt_iff.2 h
    omega
theorem intF_no1 {z : Rat} (h : (intF z).2 = false) : (intF z).1 = 0 := by
  unfold intF at h ⊢
  split at h
  · rename_i hn
    rw [if_pos hn]
  · cases h
theorem intF_range (z : Rat) : -1099511627776 ≤ (intF z).1 ∧ (intF z).1 ≤ 1099511627776 := by
  unfold intF
  split
  · exact ⟨by decide, by decide⟩
  · rename_i h
    have h1 : z ≤ ((1099511627776 : Int) : Rat) := Rat.not_lt.1 fun e => h (.inl e)
    have h2 : ((-1099511627776 : Int) : Rat) ≤ z := Rat.not_lt.1 fun e => h (.inr e)
    exact ⟨Rat.le_floor_iff.2 h2, Int.lt_add_one_iff.1 (Rat.floor_lt_iff.2 (rat_lt_succ h1))⟩
theorem floor_neg {y : Rat} (h : y.floor < 0) : y < 0 := by
  have := Rat.floor_lt_iff.1 h
  simpa using this
theorem near3_pos {y : Rat} (h : 0 ≤ y.floor) : nearI 3 y = y.floor := by
  unfold nearI
  rw [if_neg (by decide), if_neg]
  rintro ⟨-, h'⟩
  have : y.floor < 0 := Rat.floor_lt_iff.2 (by simpa using h')
  omega
theorem near3_val {y : Rat} (h : y.floor < 0) : nearI 3 y = -(-y).floor := by
  unfold nearI
  rw [if_neg (by decide), if_pos ⟨rfl, floor_neg h⟩]
theorem neg_le' {a : Int} {y : Rat} : (a : Rat) ≤ -y ↔ y ≤ ((-a : Int) : Rat) := by
  rw [Rat.intCast_neg]
  constructor
  · intro h
    have := Rat.neg_le_neg h
    rwa [Rat.neg_neg] at this
  · intro h
    have := Rat.neg_le_neg h
    rwa [Rat.neg_neg] at this
theorem near3_up {y : Rat} (h : y.floor < 0) (hl : (y.floor : Rat) < y) : nearI 3 y = y.floor + 1 := by
  rw [near3_val h]
  have a1 : -(y.floor + 1) ≤ (-y).floor := Rat.le_floor_iff.2 (neg_le'.2 (by
    rw [Int.neg_neg]
    have := Rat.lt_floor_add_one y
    exact Rat.le_of_lt (by simpa using this)))
  have a2 : ¬ (-y.floor) ≤ (-y).floor := fun e => by
    have := neg_le'.1 (Rat.le_floor_iff.1 e)
    rw [Int.neg_neg] at this
    exact absurd hl (Rat.not_lt.2 this)
  omega
theorem near3_eq {y : Rat} (h : y.floor < 0) (hl : ¬ (y.floor : Rat) < y) : nearI 3 y = y.floor := by
  rw [near3_val h]
  have e : (y.floor : Rat) = y := Rat.le_antisymm (Rat.floor_le y) (Rat.not_lt.1 hl)
  have a1 : -y.floor ≤ (-y).floor := Rat.le_floor_iff.2 (neg_le'.2 (by rw [Int.neg_neg]; exact Rat.not_lt.1 hl))
  have a2 : ¬ (-y.floor + 1) ≤ (-y).floor := fun e' => by
    have := neg_le'.1 (Rat.le_floor_iff.1 e')
    have := Rat.intCast_le_intCast.1 (Rat.le_trans (Rat.floor_le y) this)
    omega
  omega
theorem near3_big {y : Rat} (h : ((1099511627776 : Int) : Rat) < y ∨ y < ((-1099511627776 : Int) : Rat)) : 1099511627776 ≤ nearI 3 y ∨ nearI 3 y ≤ -1099511627776 := by
  rcases h with h | h
  · have h1 : 1099511627776 ≤ y.floor := Rat.le_floor_iff.2 (Rat.le_of_lt h)
    rw [near3_pos (by omega)]
    exact .inl h1
  · have h1 := Rat.floor_lt_iff.2 h
    rw [near3_val (by omega)]
    have : 1099511627776 ≤ (-y).floor := Rat.le_floor_iff.2 (neg_le'.2 (Rat.le_of_lt h))
    omega
set_option maxRecDepth 100000 in
set_option maxHeartbeats 4000000 in
theorem r21_Nearest (b f r o : Int) (v : Value) (x : Rat) (K : Nat) (w : World) (hx : RatA w v x K) (hK : 1 ≤ K) (h9 : K ≤ 300000) : Calls Try.prog 9 #[wordV b f r o, v] w (NearPost b f r o x w) := by
  obtain ⟨neg, A, na, c, l, B, m, d, rr, rfl, hxx⟩ := hx
  have hx : RatA w (.agg #[.bool neg, .slice A na c, .slice B m d]) x K := ⟨neg, A, na, c, l, B, m, d, rr, rfl, hxx⟩
  have CV : Hid (∀ w1, Calls Try.prog 50 #[wordV b f r o] w1 fun e w' => e = .returned (.bool (okW b f r o)) ∧ Below w1.heap.size w1 w') := Lib.hid fun w1 => rf_Valid b f r o w1
  obtain ⟨dsR, hR1, hR2⟩ := row_Rat
  have HRR := Lib.hid (And.intro hR1 hR2)
  clear hR1 hR2
  rcases Bool.eq_false_or_eq_true (okW b f r o) with h | h
  · have hf := okW_iff.1 h
    rw [h] at CV
    obtain ⟨n, rfl⟩ : ∃ n : Nat, f = n := ⟨f.toNat, by omega⟩
    have hn : n ≤ 30 := by omega
    obtain ⟨P, hP⟩ : ∃ P : Int, (2 : Int) ^ n = P := ⟨_, rfl⟩
    obtain ⟨y, hy⟩ : ∃ y : Rat, x * (P : Rat) = y := ⟨_, rfl⟩
    have CP : Hid (∀ w1, Calls Try.prog 52 #[.int .i64 (n : Int)] w1 fun e w' => ∃ u, e = .returned u ∧ RatN w1.heap.size w' u P 1 2 ∧ Below w1.heap.size w1 w') := Lib.hid fun w1 => hP ▸ r21_power n w1 hn
    have CM : Hid (∀ u w1 (b1 : Nat), Below w.heap.size w w1 → RatN b1 w1 u P 1 2 → Calls Try.prog 51 #[.agg #[.bool neg, .slice A na c, .slice B m d], u] w1 (RetQ w1 y (K + 2))) := Lib.hid fun u w1 b1 hb hu => hy ▸ r3_Mul _ u x _ K 2 w1 (hx.grow hb) (by rw [one_div P]; exact (hu.ratQ (by decide)).arg) hK (by decide) (by omega) (by decide)
    have HYV : Hid (x * ((2 ^ (n : Int).toNat : Int) : Rat) = y) := Lib.hid (by rw [Int.toNat_natCast, hP]; exact hy)
    have HOK : Hid (okW b n r o = true ∧ 1 ≤ r ∧ r ≤ 3) := Lib.hid ⟨h, by omega, by omega⟩
    have HKK : Hid (1 ≤ K ∧ K ≤ 300000) := Lib.hid ⟨hK, h9⟩
    clear hf hn h hx hxx hP hy
    go_enter Try.func9, Try.ntmps9
    go_upto_region 1 with fail
    have hB0 : Below w.heap.size w ((w.alloc (.cells #[.int .i64 b, .int .i64 (n : Int), .int .i64 r, .int .i64 o] 23)).alloc (.cells #[.bool neg, .slice A na c, .slice B m d] 28)) := (((Below.refl _ _).alloc (Nat.le_refl _) _).alloc (by simp; try omega) _)
    have bx0 : Box ((w.alloc (.cells #[.int .i64 b, .int .i64 (n : Int), .int .i64 r, .int .i64 o] 23)).alloc (.cells #[.bool neg, .slice A na c, .slice B m d] 28)) (w.heap.size) [.int .i64 b, .int .i64 (n : Int), .int .i64 r, .int .i64 o] := ((Box.new (by simp)).alloc _)
    have bx1 : Box ((w.alloc (.cells #[.int .i64 b, .int .i64 (n : Int), .int .i64 r, .int .i64 o] 23)).alloc (.cells #[.bool neg, .slice A na c, .slice B m d] 28)) (w.heap.size + 1) [.bool neg, .slice A na c, .slice B m d] := (Box.new (by simp))
    generalize (w.alloc (.cells #[.int .i64 b, .int .i64 (n : Int), .int .i64 r, .int .i64 o] 23)).alloc (.cells #[.bool neg, .slice A na c, .slice B m d] 28) = wA at hB0 bx0 bx1 ⊢
    have HA := Lib.hid (And.intro hB0 (And.intro bx0 bx1))
    clear hB0 bx0 bx1
    have x0 : wA.cell? ⟨w.heap.size, 0, none⟩ = some (.int .i64 b) := (HA.out.2.1).2.1 0
    have x1 : wA.cell? ⟨w.heap.size, 1, none⟩ = some (.int .i64 (n : Int)) := (HA.out.2.1).2.1 1
    have x2 : wA.cell? ⟨w.heap.size, 2, none⟩ = some (.int .i64 r) := (HA.out.2.1).2.1 2
    have x3 : wA.cell? ⟨w.heap.size, 3, none⟩ = some (.int .i64 o) := (HA.out.2.1).2.1 3
    go_upto_region 3 with (go_at_call 50; (with_reducible refine (CV.out _).mono ?_); rintro e1 w1 ⟨rfl, hb1⟩; have HB1 := Lib.hid hb1; clear hb1)
    clear x0 x1 x2 x3
    refine wp_region_grow7 (fun i => Nat.blt i 6) (fun _ => false) (fun w9 => Below w1.heap.size w1 w9) (gT [.v (.agg #[.bool neg, .slice A na c, .slice B m d]), .v (.pointer (some ⟨w.heap.size, 1, none⟩)), .v (.int .i64 (n : Int)), .gen (WhlO P) WhlO_keep, .rq y (K + 2), .box 28 [.bool false, .slice none 0 0, .slice none 0 0]]) (fun a b => Below a.heap.size a b) (dT w1.heap.size [.v (.agg #[.bool neg, .slice A na c, .slice B m d]), .v (.pointer (some ⟨w.heap.size, 1, none⟩)), .v (.int .i64 (n : Int)), .gen (WhlO P) WhlO_keep, .rq y (K + 2), .box 28 [.bool false, .slice none 0 0, .slice none 0 0]]) (by kernel_rfl) (by kernel_rfl) (Below.refl _ _).drew (fun j x a b h1 h2 => ⟨below_then h1 h2.1, fun i _ v => dT_keep h2.1 i v, Below.refl _ _, fun w0 h => below_then h h2.1⟩) (fun j v w h => by cases h) ?_ (fun j o _ _ h => by cases h) ?_
    · refine ⟨?_, ?_, ?_, ?_, ?_, ?_, trivial⟩
      all_goals
        intro vs w9 hp hF
        have HP := Lib.hid hp
        have y1 : w9.cell? ⟨w.heap.size, 1, none⟩ = some (.int .i64 (n : Int)) := ((HA.out.2.1.keep HB1.out).keep hp).2.1 1
        clear hp
        simp [depsB, Region.binds, dT] at hF
        simp [stL, depsB, Region.binds, Act.put, hF]
      · (obtain ⟨dI, hI1, hI2⟩ := row_Rat; refine wp_ld rfl 28 _ rfl (w.heap.size + 1) 0 rfl ((HA.out.2.2.keep HB1.out).keep HP.out) [.bool neg, .slice A na c, .slice B m d] (fun j v h => by rcases j with _ | _ | _ | _ | j <;> simp at h ⊢ <;> exact h) dI hI1 hI2 size_Rat ?_; go_wp2_with fail; exact ⟨rfl, Below.refl _ _, nbx rfl⟩)
      · (go_wp2_with fail; exact ⟨rfl, Below.refl _ _, nbx rfl⟩)
      · (go_wp2_with fail; exact ⟨rfl, Below.refl _ _, nbx rfl⟩)
      · go_wp2_with (go_at_call 52; (with_reducible refine (CP.out _).mono ?_); rintro e1 w1' ⟨v1, rfl, ho, hb1⟩)
        exact ⟨ho.base HP.out.size, hb1, nbx rfl⟩
      · obtain ⟨e0, h3⟩ := hF
        have H3 : Hid (RatN w1.heap.size w9 (vs 3) P 1 2) := Lib.hid h3
        obtain ⟨g3, A3, n3, c3, B3, m3, d3, e3⟩ := H3.out.form
        rw [e3] at H3
        clear h3
        simp only [e0, e3]
        go_wp2_with (go_at_call 51; (with_reducible refine (CM.out _ _ _ (below_then (below_then HA.out.1 HB1.out) HP.out) H3.out).mono ?_); rintro e1' w1' ⟨v1, rfl, ho, hb1⟩)
        exact ⟨ho.base HP.out.size, hb1, nbx rfl⟩
      · (go_wp2_with fail; exact ⟨BoxO.new HP.out.size, (Below.refl _ _).alloc (Nat.le_refl _) _, fun _ => rfl⟩)
    intro vs w9 hp hF hpr
    have hq : RatQ w1.heap.size w9 (vs 4) (y) (K + 2) := hF 4 (by decide) rfl
    obtain ⟨g7, A7, n7, c7, B7, m7, d7, e7⟩ := hq.form
    rw [e7] at hq
    obtain ⟨G, e9, k9, b9, t9⟩ : BoxO w1.heap.size w9 (vs 5) 28 [.bool false, .slice none 0 0, .slice none 0 0] := hF 5 (by decide) rfl
    clear hpr hF
    show wpList Try.prog _ _ [_] _ _
    simp [stL, Act.put, e7, e9]
    refine wp_st rfl 28 _ _ rfl G 0 [_, _, _] rfl rfl size_Rat rfl b9 (Nat.le_refl _) rfl ?_
    intro W1 c1 q1
    have HQ := Lib.hid (hq.keptT q1 t9 (by decide))
    have HC : Hid (Box W1 G [.bool g7, .slice A7 n7 c7, .slice B7 m7 d7]) := Lib.hid c1
    have hb3 : Below w1.heap.size w1 W1 := put_facts hp k9 q1
    have HB3 : Hid (Below w.heap.size w W1) := Lib.hid (below_then (below_then HA.out.1 HB1.out) hb3)
    have HW := Lib.hid ((HA.out.2.1.keep HB1.out).keep hb3)
    have HG : Hid (w1.heap.size ≤ G ∧ w.heap.size < w1.heap.size) := Lib.hid ⟨k9, Nat.lt_of_lt_of_le HA.out.2.1.1 HB1.out.size⟩
    clear hq e7 e9 k9 b9 t9 c1 q1 hp hb3 CV CP CM HA HB1
    go_upto_region 4 with fail
    rcases (show r = 1 ∨ r = 2 ∨ r = 3 by have := HOK.out; omega) with rfl | rfl | rfl
    · have y2 : W1.cell? ⟨w.heap.size, 2, none⟩ = some (.int .i64 1) := HW.out.2.1 2
      go_upto_region 6 with fail
      clear y2
      obtain ⟨t, hT⟩ : ∃ t, (intF (y)).1 = t := ⟨_, rfl⟩
      obtain ⟨ok, hO⟩ : ∃ k, (intF (y)).2 = k := ⟨_, rfl⟩
      have CI : Hid (Calls Try.prog 54 #[.agg #[.bool g7, .slice A7 n7 c7, .slice B7 m7 d7]] W1 fun e w' => e = .returned (.tuple #[.int .i64 t, .bool ok]) ∧ Below W1.heap.size W1 w') := Lib.hid (by
        have hk := HKK.out
        have h := r21_Integer _ (y) (K + 2) W1 HQ.out.arg (by omega) (by omega)
        rw [hT, hO] at h
        exact h)
      have HTO := Lib.hid (And.intro hT hO)
      clear hT hO
      go_upto_region 7 with (first
        | ((with_reducible show wpList _ _ _ (Oper.mk _ (.load 28 _) _ _ _ _ :: _) _ _); refine wp_ld rfl 28 _ rfl (G) 0 rfl (HC.out) [.bool g7, .slice A7 n7 c7, .slice B7 m7 d7] (fun j v h => by rcases j with _ | _ | _ | j <;> simp at h ⊢ <;> exact h) dsR HRR.out.1 HRR.out.2 size_Rat ?_)
        | (go_at_call 54; (with_reducible refine CI.out.mono ?_); rintro e5 w5 ⟨rfl, hb5⟩; have HB5 := Lib.hid hb5; clear hb5))
      have HWX := Lib.hid (HW.out.keep HB5.out)
      have HBX := Lib.hid (below_then HB3.out HB5.out)
      clear CI
      refine wp_region_growG (fun i => Nat.blt i 13) (fun w9 => Below w5.heap.size w5 w9) (gT [.v (.pointer (some ⟨w.heap.size, 2, none⟩)), .v (.int .i64 1), .v (.bool false), .v (.bool false), .any, .any, .v (.bool false), .v (.bool false), .any, .any, .any, .any, .any]) (fun a b => Below a.heap.size a b) (dT w5.heap.size [.v (.pointer (some ⟨w.heap.size, 2, none⟩)), .v (.int .i64 1), .v (.bool false), .v (.bool false), .any, .any, .v (.bool false), .v (.bool false), .any, .any, .any, .any, .any]) (by kernel_rfl) (by kernel_rfl) (Below.refl _ _).drew (fun j x a b h1 h2 => ⟨below_then h1 h2.1, fun i _ v => dT_keep h2.1 i v, Below.refl _ _, fun w0 h => below_then h h2.1⟩) ?_ ?_
      · refine ⟨?_, ?_, ?_, ?_, ?_, ?_, ?_, ?_, ?_, ?_, ?_, ?_, ?_, trivial⟩
        all_goals
          intro vs w9 hp hF
          have HP := Lib.hid hp
          have y2 : w9.cell? ⟨w.heap.size, 2, none⟩ = some (.int .i64 1) := (HWX.out.keep hp).2.1 2
          clear hp
          simp [depsB, Region.binds, dT] at hF
          simp [stL, depsB, Region.binds, Act.put, hF]
        · (go_wp2_with fail; exact ⟨rfl, Below.refl _ _, nbx rfl⟩)
        · (go_wp2_with fail; exact ⟨rfl, Below.refl _ _, nbx rfl⟩)
        · (go_wp2_with fail; exact ⟨rfl, Below.refl _ _, nbx rfl⟩)
        · (go_wp2_with fail; exact ⟨rfl, Below.refl _ _, nbx rfl⟩)
        · ((with_reducible refine wpList_skip (by kernel_rfl) ?_); exact ⟨rfl, undef, rfl, trivial, Below.refl _ _, nbx rfl⟩)
        · ((with_reducible refine wpList_skip (by kernel_rfl) ?_); exact ⟨rfl, undef, rfl, trivial, Below.refl _ _, nbx rfl⟩)
        · (go_wp2_with fail; exact ⟨rfl, Below.refl _ _, nbx rfl⟩)
        · (go_wp2_with fail; exact ⟨rfl, Below.refl _ _, nbx rfl⟩)
        · ((with_reducible refine wpList_skip (by kernel_rfl) ?_); exact ⟨rfl, undef, rfl, trivial, Below.refl _ _, nbx rfl⟩)
        · ((with_reducible refine wpList_skip (by kernel_rfl) ?_); exact ⟨rfl, undef, rfl, trivial, Below.refl _ _, nbx rfl⟩)
        · ((with_reducible refine wpList_skip (by kernel_rfl) ?_); exact ⟨rfl, undef, rfl, trivial, Below.refl _ _, nbx rfl⟩)
        · ((with_reducible refine wpList_skip (by kernel_rfl) ?_); exact ⟨rfl, undef, rfl, trivial, Below.refl _ _, nbx rfl⟩)
        · ((with_reducible refine wpList_skip (by kernel_rfl) ?_); exact ⟨rfl, undef, rfl, trivial, Below.refl _ _, nbx rfl⟩)
      intro vs w9 hp hF hpr
      have e7 : vs 7 = .bool false := hF 7 (by decide) rfl
      have HB7 := Lib.hid hp
      clear hF hpr hp
      cases ok with
      | false =>
        have HN0 : Hid (nearF b (n : Int) 1 o x = (0, false)) := Lib.hid (by
          have h := floor_big (intF_no HTO.out.2)
          unfold nearF
          rw [HYV.out, if_neg]
          rw [fits_big]
          · decide
          · (unfold nearI; rw [if_neg (by decide), if_neg (by simp)]; omega))
        show wpList Try.prog _ _ [_] _ _
        simp [stL, Act.put, e7]
        go_wp2_with fail
        refine bodyPost_ret (results_tmp2 rfl _ _ _) rfl ?_
        exact ⟨by rw [HN0.out]; rfl, below_then HBX.out HB7.out⟩
      | true =>
        have HNR : Hid (nearI 1 y = t) := Lib.hid (by
          have h := intF_yes HTO.out.2
          rw [HTO.out.1] at h
          unfold nearI; rw [if_neg (by decide), if_neg (by simp)]; exact h.symm)
        have x0 : w9.cell? ⟨w.heap.size, 0, none⟩ = some (.int .i64 b) := (HWX.out.keep HB7.out).2.1 0
        have x1 : w9.cell? ⟨w.heap.size, 1, none⟩ = some (.int .i64 (n : Int)) := (HWX.out.keep HB7.out).2.1 1
        have x2 : w9.cell? ⟨w.heap.size, 2, none⟩ = some (.int .i64 1) := (HWX.out.keep HB7.out).2.1 2
        have x3 : w9.cell? ⟨w.heap.size, 3, none⟩ = some (.int .i64 o) := (HWX.out.keep HB7.out).2.1 3
        show wpList Try.prog _ _ [_] _ _
        simp [stL, Act.put, e7]
        obtain ⟨fv, hfv⟩ : ∃ c, fitsW b (n : Int) 1 o (t) = c := ⟨_, rfl⟩
        have CFT : Hid (∀ w1, Calls Try.prog 55 #[wordV b (n : Int) 1 o, .int .i64 (t)] w1 fun e w' => e = .returned (.bool fv) ∧ Below w1.heap.size w1 w') := Lib.hid fun w1 => hfv ▸ rf_Fits b n 1 o (t) w1
        have HFV := Lib.hid hfv
        clear hfv
        cases fv with
        | false =>
          go_wp2_with (go_at_call 55; (with_reducible refine (CFT.out _).mono ?_); rintro e8 w8 ⟨rfl, hb8⟩; have HB8 := Lib.hid hb8; clear hb8)
          refine bodyPost_ret (results_tmp2 rfl _ _ _) rfl ?_
          refine ⟨?_, below_then (below_then HBX.out HB7.out) HB8.out⟩
          have hnr := HNR.out
          unfold nearF
          rw [HYV.out, hnr, if_neg (by rw [HFV.out]; decide)]
          rfl
        | true =>
          go_wp2_with (go_at_call 55; (with_reducible refine (CFT.out _).mono ?_); rintro e8 w8 ⟨rfl, hb8⟩; have HB8 := Lib.hid hb8; clear hb8)
          refine bodyPost_ret (results_tmp2 rfl _ _ _) rfl ?_
          refine ⟨?_, below_then (below_then HBX.out HB7.out) HB8.out⟩
          have hnr := HNR.out
          unfold nearF
          rw [HYV.out, hnr, if_pos HFV.out]
          rfl
    · have y2 : W1.cell? ⟨w.heap.size, 2, none⟩ = some (.int .i64 2) := HW.out.2.1 2
      obtain ⟨hf, hhf⟩ : ∃ q : Rat, ((1 : Int) : Rat) / ((2 : Int) : Rat) = q := ⟨_, rfl⟩
      obtain ⟨z2, hz2⟩ : ∃ q : Rat, y + hf = q := ⟨_, rfl⟩
      have HY2 : Hid (y + ((1 : Int) : Rat) / ((2 : Int) : Rat) = z2) := Lib.hid (by rw [hhf]; exact hz2)
      have CFR : Hid (∀ w1, Calls Try.prog 53 #[.int .i64 1, .int .i64 2] w1 (RetQ w1 hf 2)) := Lib.hid fun w1 => hhf ▸ r3_Frac 1 2 w1 (by unfold I64; omega) (by unfold I64; omega)
      have CAD : Hid (∀ u w1 b, Below W1.heap.size W1 w1 → RatQ b w1 u hf 2 → Calls Try.prog 28 #[.agg #[.bool g7, .slice A7 n7 c7, .slice B7 m7 d7], u] w1 (RetQ w1 z2 (K + 5))) := Lib.hid fun u w1 b hb hu => by
        have hk := HKK.out
        have h := r3_Add _ u y hf (K + 2) 2 w1 (HQ.out.grow hb).arg hu.arg (by omega) (by decide) (by omega) (by decide)
        rw [hz2] at h
        exact h
      clear hhf hz2
      go_upto_region 5 with fail
      clear y2
      refine wp_region_grow7 (fun i => Nat.blt i 3) (fun _ => false) (fun w9 => Below W1.heap.size W1 w9) (gT [.v (.agg #[.bool g7, .slice A7 n7 c7, .slice B7 m7 d7]), .rq hf 2, .rq z2 (K + 5)]) (fun a b => Below a.heap.size a b) (dT W1.heap.size [.v (.agg #[.bool g7, .slice A7 n7 c7, .slice B7 m7 d7]), .rq hf 2, .rq z2 (K + 5)]) (by kernel_rfl) (by kernel_rfl) (Below.refl _ _).drew (fun j x a b h1 h2 => ⟨below_then h1 h2.1, fun i _ v => dT_keep h2.1 i v, Below.refl _ _, fun w0 h => below_then h h2.1⟩) (fun j v w h => by cases h) ?_ (fun j o _ _ h => by cases h) ?_
      · refine ⟨?_, ?_, ?_, trivial⟩
        all_goals
          intro vs w9 hp hF
          have HP := Lib.hid hp
          clear hp
          simp [depsB, Region.binds, dT] at hF
          simp [stL, depsB, Region.binds, Act.put, hF]
        · (obtain ⟨dI, hI1, hI2⟩ := row_Rat; refine wp_ld rfl 28 _ rfl (G) 0 rfl (HC.out.keep HP.out) [.bool g7, .slice A7 n7 c7, .slice B7 m7 d7] (fun j v h => by rcases j with _ | _ | _ | _ | j <;> simp at h ⊢ <;> exact h) dI hI1 hI2 size_Rat ?_; go_wp2_with fail; exact ⟨rfl, Below.refl _ _, nbx rfl⟩)
        · go_wp2_with (go_at_call 53; (with_reducible refine (CFR.out _).mono ?_); rintro e1 w1' ⟨v1, rfl, ho, hb1⟩)
          exact ⟨ho.base HP.out.size, hb1, nbx rfl⟩
        · obtain ⟨e0, hq⟩ := hF
          have HQ1 := Lib.hid hq
          obtain ⟨g1, A1, n1, c1, B1, m1, d1, e1⟩ := hq.form
          rw [e1] at HQ1
          simp only [e0, e1]
          go_wp2_with (go_at_call 28; (with_reducible refine (CAD.out _ _ _ HP.out HQ1.out).mono ?_); rintro e1' w1' ⟨v1, rfl, ho, hb1⟩)
          exact ⟨ho.base HP.out.size, hb1, nbx rfl⟩
      intro vs w9 hp hF hpr
      have hq : RatQ W1.heap.size w9 (vs 2) z2 (K + 5) := hF 2 (by decide) rfl
      have HQ8 := Lib.hid hq
      obtain ⟨g8, A8, n8, c8, B8, m8, d8, e8⟩ := hq.form
      rw [e8] at HQ8
      have HBE := Lib.hid hp
      clear hF hpr hq hp
      show wpList Try.prog _ _ [_] _ _
      simp [stL, Act.put, e8]
      refine wp_st rfl 28 _ _ rfl G 0 [_, _, _] rfl rfl size_Rat rfl (HC.out.keep HBE.out) (Nat.le_refl _) rfl ?_
      intro W5 k5 q5
      have hg := HG.out
      have HQ5 := Lib.hid (HQ8.out.away q5 HC.out.1)
      have HC5 : Hid (Box W5 G [.bool g8, .slice A8 n8 c8, .slice B8 m8 d8]) := Lib.hid k5
      have HW5 := Lib.hid ((HW.out.keep HBE.out).grown q5 (fun e => by injection e with e; omega))
      have HB5' : Hid (Below w.heap.size w W5) := Lib.hid (put_facts (below_then HB3.out HBE.out) (by omega) q5)
      clear k5 q5 hg CFR CAD
      go_upto_region 6 with fail
      obtain ⟨t, hT⟩ : ∃ t, (intF (z2)).1 = t := ⟨_, rfl⟩
      obtain ⟨ok, hO⟩ : ∃ k, (intF (z2)).2 = k := ⟨_, rfl⟩
      have CI : Hid (Calls Try.prog 54 #[.agg #[.bool g8, .slice A8 n8 c8, .slice B8 m8 d8]] W5 fun e w' => e = .returned (.tuple #[.int .i64 t, .bool ok]) ∧ Below W5.heap.size W5 w') := Lib.hid (by
        have hk := HKK.out
        have h := r21_Integer _ (z2) (K + 5) W5 HQ5.out.arg (by omega) (by omega)
        rw [hT, hO] at h
        exact h)
      have HTO := Lib.hid (And.intro hT hO)
      clear hT hO
      go_upto_region 7 with (first
        | ((with_reducible show wpList _ _ _ (Oper.mk _ (.load 28 _) _ _ _ _ :: _) _ _); refine wp_ld rfl 28 _ rfl (G) 0 rfl (HC5.out) [.bool g8, .slice A8 n8 c8, .slice B8 m8 d8] (fun j v h => by rcases j with _ | _ | _ | j <;> simp at h ⊢ <;> exact h) dsR HRR.out.1 HRR.out.2 size_Rat ?_)
        | (go_at_call 54; (with_reducible refine CI.out.mono ?_); rintro e5 w5 ⟨rfl, hb5⟩; have HB5 := Lib.hid hb5; clear hb5))
      have HWX := Lib.hid (HW5.out.keep HB5.out)
      have HBX := Lib.hid (below_then HB5'.out HB5.out)
      clear CI
      refine wp_region_growG (fun i => Nat.blt i 13) (fun w9 => Below w5.heap.size w5 w9) (gT [.v (.pointer (some ⟨w.heap.size, 2, none⟩)), .v (.int .i64 2), .v (.bool false), .v (.bool false), .any, .any, .v (.bool false), .v (.bool false), .any, .any, .any, .any, .any]) (fun a b => Below a.heap.size a b) (dT w5.heap.size [.v (.pointer (some ⟨w.heap.size, 2, none⟩)), .v (.int .i64 2), .v (.bool false), .v (.bool false), .any, .any, .v (.bool false), .v (.bool false), .any, .any, .any, .any, .any]) (by kernel_rfl) (by kernel_rfl) (Below.refl _ _).drew (fun j x a b h1 h2 => ⟨below_then h1 h2.1, fun i _ v => dT_keep h2.1 i v, Below.refl _ _, fun w0 h => below_then h h2.1⟩) ?_ ?_
      · refine ⟨?_, ?_, ?_, ?_, ?_, ?_, ?_, ?_, ?_, ?_, ?_, ?_, ?_, trivial⟩
        all_goals
          intro vs w9 hp hF
          have HP := Lib.hid hp
          have y2 : w9.cell? ⟨w.heap.size, 2, none⟩ = some (.int .i64 2) := (HWX.out.keep hp).2.1 2
          clear hp
          simp [depsB, Region.binds, dT] at hF
          simp [stL, depsB, Region.binds, Act.put, hF]
        · (go_wp2_with fail; exact ⟨rfl, Below.refl _ _, nbx rfl⟩)
        · (go_wp2_with fail; exact ⟨rfl, Below.refl _ _, nbx rfl⟩)
        · (go_wp2_with fail; exact ⟨rfl, Below.refl _ _, nbx rfl⟩)
        · (go_wp2_with fail; exact ⟨rfl, Below.refl _ _, nbx rfl⟩)
        · ((with_reducible refine wpList_skip (by kernel_rfl) ?_); exact ⟨rfl, undef, rfl, trivial, Below.refl _ _, nbx rfl⟩)
        · ((with_reducible refine wpList_skip (by kernel_rfl) ?_); exact ⟨rfl, undef, rfl, trivial, Below.refl _ _, nbx rfl⟩)
        · (go_wp2_with fail; exact ⟨rfl, Below.refl _ _, nbx rfl⟩)
        · (go_wp2_with fail; exact ⟨rfl, Below.refl _ _, nbx rfl⟩)
        · ((with_reducible refine wpList_skip (by kernel_rfl) ?_); exact ⟨rfl, undef, rfl, trivial, Below.refl _ _, nbx rfl⟩)
        · ((with_reducible refine wpList_skip (by kernel_rfl) ?_); exact ⟨rfl, undef, rfl, trivial, Below.refl _ _, nbx rfl⟩)
        · ((with_reducible refine wpList_skip (by kernel_rfl) ?_); exact ⟨rfl, undef, rfl, trivial, Below.refl _ _, nbx rfl⟩)
        · ((with_reducible refine wpList_skip (by kernel_rfl) ?_); exact ⟨rfl, undef, rfl, trivial, Below.refl _ _, nbx rfl⟩)
        · ((with_reducible refine wpList_skip (by kernel_rfl) ?_); exact ⟨rfl, undef, rfl, trivial, Below.refl _ _, nbx rfl⟩)
      intro vs w9 hp hF hpr
      have e7 : vs 7 = .bool false := hF 7 (by decide) rfl
      have HB7 := Lib.hid hp
      clear hF hpr hp
      cases ok with
      | false =>
        have HN0 : Hid (nearF b (n : Int) 2 o x = (0, false)) := Lib.hid (by
          have h := floor_big (intF_no HTO.out.2)
          unfold nearF
          rw [HYV.out, if_neg]
          rw [fits_big]
          · decide
          · (unfold nearI; rw [if_pos rfl, HY2.out]; omega))
        show wpList Try.prog _ _ [_] _ _
        simp [stL, Act.put, e7]
        go_wp2_with fail
        refine bodyPost_ret (results_tmp2 rfl _ _ _) rfl ?_
        exact ⟨by rw [HN0.out]; rfl, below_then HBX.out HB7.out⟩
      | true =>
        have HNR : Hid (nearI 2 y = t) := Lib.hid (by
          have h := intF_yes HTO.out.2
          rw [HTO.out.1] at h
          unfold nearI; rw [if_pos rfl, HY2.out]; exact h.symm)
        have x0 : w9.cell? ⟨w.heap.size, 0, none⟩ = some (.int .i64 b) := (HWX.out.keep HB7.out).2.1 0
        have x1 : w9.cell? ⟨w.heap.size, 1, none⟩ = some (.int .i64 (n : Int)) := (HWX.out.keep HB7.out).2.1 1
        have x2 : w9.cell? ⟨w.heap.size, 2, none⟩ = some (.int .i64 2) := (HWX.out.keep HB7.out).2.1 2
        have x3 : w9.cell? ⟨w.heap.size, 3, none⟩ = some (.int .i64 o) := (HWX.out.keep HB7.out).2.1 3
        show wpList Try.prog _ _ [_] _ _
        simp [stL, Act.put, e7]
        obtain ⟨fv, hfv⟩ : ∃ c, fitsW b (n : Int) 2 o (t) = c := ⟨_, rfl⟩
        have CFT : Hid (∀ w1, Calls Try.prog 55 #[wordV b (n : Int) 2 o, .int .i64 (t)] w1 fun e w' => e = .returned (.bool fv) ∧ Below w1.heap.size w1 w') := Lib.hid fun w1 => hfv ▸ rf_Fits b n 2 o (t) w1
        have HFV := Lib.hid hfv
        clear hfv
        cases fv with
        | false =>
          go_wp2_with (go_at_call 55; (with_reducible refine (CFT.out _).mono ?_); rintro e8 w8 ⟨rfl, hb8⟩; have HB8 := Lib.hid hb8; clear hb8)
          refine bodyPost_ret (results_tmp2 rfl _ _ _) rfl ?_
          refine ⟨?_, below_then (below_then HBX.out HB7.out) HB8.out⟩
          have hnr := HNR.out
          unfold nearF
          rw [HYV.out, hnr, if_neg (by rw [HFV.out]; decide)]
          rfl
        | true =>
          go_wp2_with (go_at_call 55; (with_reducible refine (CFT.out _).mono ?_); rintro e8 w8 ⟨rfl, hb8⟩; have HB8 := Lib.hid hb8; clear hb8)
          refine bodyPost_ret (results_tmp2 rfl _ _ _) rfl ?_
          refine ⟨?_, below_then (below_then HBX.out HB7.out) HB8.out⟩
          have hnr := HNR.out
          unfold nearF
          rw [HYV.out, hnr, if_pos HFV.out]
          rfl
    · have y2 : W1.cell? ⟨w.heap.size, 2, none⟩ = some (.int .i64 3) := HW.out.2.1 2
      go_upto_region 6 with fail
      clear y2
      obtain ⟨t, hT⟩ : ∃ t, (intF (y)).1 = t := ⟨_, rfl⟩
      obtain ⟨ok, hO⟩ : ∃ k, (intF (y)).2 = k := ⟨_, rfl⟩
      have CI : Hid (Calls Try.prog 54 #[.agg #[.bool g7, .slice A7 n7 c7, .slice B7 m7 d7]] W1 fun e w' => e = .returned (.tuple #[.int .i64 t, .bool ok]) ∧ Below W1.heap.size W1 w') := Lib.hid (by
        have hk := HKK.out
        have h := r21_Integer _ (y) (K + 2) W1 HQ.out.arg (by omega) (by omega)
        rw [hT, hO] at h
        exact h)
      have HTO := Lib.hid (And.intro hT hO)
      clear hT hO
      go_upto_region 7 with (first
        | ((with_reducible show wpList _ _ _ (Oper.mk _ (.load 28 _) _ _ _ _ :: _) _ _); refine wp_ld rfl 28 _ rfl (G) 0 rfl (HC.out) [.bool g7, .slice A7 n7 c7, .slice B7 m7 d7] (fun j v h => by rcases j with _ | _ | _ | j <;> simp at h ⊢ <;> exact h) dsR HRR.out.1 HRR.out.2 size_Rat ?_)
        | (go_at_call 54; (with_reducible refine CI.out.mono ?_); rintro e5 w5 ⟨rfl, hb5⟩; have HB5 := Lib.hid hb5; clear hb5))
      have HWX := Lib.hid (HW.out.keep HB5.out)
      have HBX := Lib.hid (below_then HB3.out HB5.out)
      clear CI
      rcases Int.lt_or_le t 0 with ht | ht
      · have hok : ok = true := by
          cases ok with
          | true => rfl
          | false => have := (intF_no1 HTO.out.2).symm.trans HTO.out.1; omega
        subst hok
        have hd : decide (t < 0) = true := decide_eq_true ht
        have hti : I64 t := by
          have := intF_range y
          rw [HTO.out.1] at this
          unfold I64; omega
        have HFY : Hid (y.floor = t) := Lib.hid ((intF_yes HTO.out.2).symm.trans HTO.out.1)
        have CO : Hid (∀ w1, Calls Try.prog 38 #[.int .i64 t] w1 (RetQ w1 (t : Rat) 2)) := Lib.hid fun w1 => r3_Of t w1 hti
        obtain ⟨cm, hcm⟩ : ∃ c, cmpR (t : Rat) y = c := ⟨_, rfl⟩
        have CC : Hid (∀ u w1 b, Below W1.heap.size W1 w1 → RatQ b w1 u (t : Rat) 2 → Calls Try.prog 13 #[u, .agg #[.bool g7, .slice A7 n7 c7, .slice B7 m7 d7]] w1 fun e w' => e = .returned (.int .i64 cm) ∧ Below w1.heap.size w1 w') := Lib.hid fun u w1 b hb hu => by
          have hk := HKK.out
          rw [← hcm]
          exact r3_Compare u _ _ y 2 (K + 2) w1 hu.arg (HQ.out.grow hb).arg (by decide) (by omega) (by decide) (by omega)
        have HCM := Lib.hid hcm
        have HT0 : Hid (t < 0 ∧ -1099511627776 ≤ t) := Lib.hid ⟨ht, by have := intF_range y; rw [HTO.out.1] at this; omega⟩
        clear hcm hti ht
        rcases Int.lt_or_le cm 0 with hc | hc
        · have hd2 : decide (cm < 0) = true := decide_eq_true hc
          have HNR : Hid (nearI 3 y = t + 1) := Lib.hid (by
            have hlt : (t : Rat) < y := cmpR_lt.1 (HCM.out ▸ hc)
            rw [← HFY.out] at hlt ⊢
            exact near3_up (by rw [HFY.out]; exact HT0.out.1) hlt)
          clear hc
          refine wp_region_growG (fun i => Nat.blt i 13) (fun w9 => Below w5.heap.size w5 w9) (gT [.v (.pointer (some ⟨w.heap.size, 2, none⟩)), .v (.int .i64 3), .v (.bool true), .v (.bool true), .v (.int .i64 t), .v (.bool true), .v (.bool true), .v (.bool true), .v (.int .i64 t), .rq (t : Rat) 2, .v (.agg #[.bool g7, .slice A7 n7 c7, .slice B7 m7 d7]), .v (.int .i64 cm), .v (.bool true)]) (fun a b => Below a.heap.size a b) (dT w5.heap.size [.v (.pointer (some ⟨w.heap.size, 2, none⟩)), .v (.int .i64 3), .v (.bool true), .v (.bool true), .v (.int .i64 t), .v (.bool true), .v (.bool true), .v (.bool true), .v (.int .i64 t), .rq (t : Rat) 2, .v (.agg #[.bool g7, .slice A7 n7 c7, .slice B7 m7 d7]), .v (.int .i64 cm), .v (.bool true)]) (by kernel_rfl) (by kernel_rfl) (Below.refl _ _).drew (fun j x a b h1 h2 => ⟨below_then h1 h2.1, fun i _ v => dT_keep h2.1 i v, Below.refl _ _, fun w0 h => below_then h h2.1⟩) ?_ ?_
          · refine ⟨?_, ?_, ?_, ?_, ?_, ?_, ?_, ?_, ?_, ?_, ?_, ?_, ?_, trivial⟩
            all_goals
              intro vs w9 hp hF
              have HP := Lib.hid hp
              have y2 : w9.cell? ⟨w.heap.size, 2, none⟩ = some (.int .i64 3) := (HWX.out.keep hp).2.1 2
              clear hp
              simp [depsB, Region.binds, dT] at hF
              simp [stL, depsB, Region.binds, Act.put, hF]
            · (go_wp2_with fail; exact ⟨rfl, Below.refl _ _, nbx rfl⟩)
            · (go_wp2_with fail; exact ⟨rfl, Below.refl _ _, nbx rfl⟩)
            · (go_wp2_with fail; exact ⟨rfl, Below.refl _ _, nbx rfl⟩)
            · (go_wp2_with fail; exact ⟨rfl, Below.refl _ _, nbx rfl⟩)
            · (with_reducible refine wpList_want (by kernel_rfl) ?_)
              (go_wp2_with fail; exact ⟨rfl, Below.refl _ _, nbx rfl⟩)
            · (with_reducible refine wpList_want (by kernel_rfl) ?_)
              (go_wp2_with fail; exact ⟨rfl, Below.refl _ _, nbx rfl⟩)
            · (go_wp2_with fail; exact ⟨rfl, Below.refl _ _, nbx rfl⟩)
            · (go_wp2_with fail; exact ⟨rfl, Below.refl _ _, nbx rfl⟩)
            · (with_reducible refine wpList_want (by kernel_rfl) ?_)
              (go_wp2_with fail; exact ⟨rfl, Below.refl _ _, nbx rfl⟩)
            · (with_reducible refine wpList_want (by kernel_rfl) ?_)
              go_wp2_with (go_at_call 38; (with_reducible refine (CO.out _).mono ?_); rintro e1 w1' ⟨v1, rfl, ho, hb1⟩)
              exact ⟨ho.base HP.out.size, hb1, nbx rfl⟩
            · (with_reducible refine wpList_want (by kernel_rfl) ?_)
              (obtain ⟨dI, hI1, hI2⟩ := row_Rat; refine wp_ld rfl 28 _ rfl (G) 0 rfl ((HC.out.keep HB5.out).keep HP.out) [.bool g7, .slice A7 n7 c7, .slice B7 m7 d7] (fun j v h => by rcases j with _ | _ | _ | _ | j <;> simp at h ⊢ <;> exact h) dI hI1 hI2 size_Rat ?_; go_wp2_with fail; exact ⟨rfl, Below.refl _ _, nbx rfl⟩)
            · (with_reducible refine wpList_want (by kernel_rfl) ?_)
              obtain ⟨hq, e10, -, e7⟩ := hF
              have HQ1 := Lib.hid hq
              obtain ⟨g1, A1, n1, c1, B1, m1, d1, e1⟩ := hq.form
              rw [e1] at HQ1
              simp only [e10, e7, e1]
              go_wp2_with (go_at_call 13; (with_reducible refine (CC.out _ _ _ (below_then HB5.out HP.out) HQ1.out).mono ?_); rintro e1' w1' ⟨rfl, hb1⟩)
              exact ⟨rfl, hb1, nbx rfl⟩
            · (with_reducible refine wpList_want (by kernel_rfl) ?_)
              (go_wp2_with fail; exact ⟨rfl, Below.refl _ _, nbx rfl⟩)
          intro vs w9 hp hF hpr
          have e7 : vs 7 = .bool true := hF 7 (by decide) rfl
          have e12 : vs 12 = .bool true := hF 12 (by decide) rfl
          have HB7 := Lib.hid hp
          clear hF hpr hp
          have hw8 : wrap64 (t + 1) = t + 1 := by have := HT0.out; unfold wrap64; omega
          have ht1 : t < 0 := HT0.out.1
          have ht2 : -1099511627776 ≤ t := HT0.out.2
          have x0 : w9.cell? ⟨w.heap.size, 0, none⟩ = some (.int .i64 b) := (HWX.out.keep HB7.out).2.1 0
          have x1 : w9.cell? ⟨w.heap.size, 1, none⟩ = some (.int .i64 (n : Int)) := (HWX.out.keep HB7.out).2.1 1
          have x2 : w9.cell? ⟨w.heap.size, 2, none⟩ = some (.int .i64 3) := (HWX.out.keep HB7.out).2.1 2
          have x3 : w9.cell? ⟨w.heap.size, 3, none⟩ = some (.int .i64 o) := (HWX.out.keep HB7.out).2.1 3
          show wpList Try.prog _ _ [_] _ _
          simp [stL, Act.put, e7, e12]
          obtain ⟨fv, hfv⟩ : ∃ c, fitsW b (n : Int) 3 o (t + 1) = c := ⟨_, rfl⟩
          have CFT : Hid (∀ w1, Calls Try.prog 55 #[wordV b (n : Int) 3 o, .int .i64 (t + 1)] w1 fun e w' => e = .returned (.bool fv) ∧ Below w1.heap.size w1 w') := Lib.hid fun w1 => hfv ▸ rf_Fits b n 3 o (t + 1) w1
          have HFV := Lib.hid hfv
          clear hfv
          cases fv with
          | false =>
            go_wp2_with (go_at_call 55; (with_reducible refine (CFT.out _).mono ?_); rintro e8 w8 ⟨rfl, hb8⟩; have HB8 := Lib.hid hb8; clear hb8)
            refine bodyPost_ret (results_tmp2 rfl _ _ _) rfl ?_
            refine ⟨?_, below_then (below_then HBX.out HB7.out) HB8.out⟩
            have hnr := HNR.out
            unfold nearF
            rw [HYV.out, hnr, if_neg (by rw [HFV.out]; decide)]
            rfl
          | true =>
            go_wp2_with (go_at_call 55; (with_reducible refine (CFT.out _).mono ?_); rintro e8 w8 ⟨rfl, hb8⟩; have HB8 := Lib.hid hb8; clear hb8)
            refine bodyPost_ret (results_tmp2 rfl _ _ _) rfl ?_
            refine ⟨?_, below_then (below_then HBX.out HB7.out) HB8.out⟩
            have hnr := HNR.out
            unfold nearF
            rw [HYV.out, hnr, if_pos HFV.out]
            rfl
        · have hd2 : decide (cm < 0) = false := decide_eq_false (by omega)
          have HNR : Hid (nearI 3 y = t) := Lib.hid (by
            have hlt : ¬ (t : Rat) < y := fun h => by
              have := cmpR_lt.2 h
              rw [HCM.out] at this
              omega
            rw [← HFY.out] at hlt ⊢
            exact near3_eq (by rw [HFY.out]; exact HT0.out.1) hlt)
          clear hc
          refine wp_region_growG (fun i => Nat.blt i 13) (fun w9 => Below w5.heap.size w5 w9) (gT [.v (.pointer (some ⟨w.heap.size, 2, none⟩)), .v (.int .i64 3), .v (.bool true), .v (.bool true), .v (.int .i64 t), .v (.bool true), .v (.bool true), .v (.bool true), .v (.int .i64 t), .rq (t : Rat) 2, .v (.agg #[.bool g7, .slice A7 n7 c7, .slice B7 m7 d7]), .v (.int .i64 cm), .v (.bool false)]) (fun a b => Below a.heap.size a b) (dT w5.heap.size [.v (.pointer (some ⟨w.heap.size, 2, none⟩)), .v (.int .i64 3), .v (.bool true), .v (.bool true), .v (.int .i64 t), .v (.bool true), .v (.bool true), .v (.bool true), .v (.int .i64 t), .rq (t : Rat) 2, .v (.agg #[.bool g7, .slice A7 n7 c7, .slice B7 m7 d7]), .v (.int .i64 cm), .v (.bool false)]) (by kernel_rfl) (by kernel_rfl) (Below.refl _ _).drew (fun j x a b h1 h2 => ⟨below_then h1 h2.1, fun i _ v => dT_keep h2.1 i v, Below.refl _ _, fun w0 h => below_then h h2.1⟩) ?_ ?_
          · refine ⟨?_, ?_, ?_, ?_, ?_, ?_, ?_, ?_, ?_, ?_, ?_, ?_, ?_, trivial⟩
            all_goals
              intro vs w9 hp hF
              have HP := Lib.hid hp
              have y2 : w9.cell? ⟨w.heap.size, 2, none⟩ = some (.int .i64 3) := (HWX.out.keep hp).2.1 2
              clear hp
              simp [depsB, Region.binds, dT] at hF
              simp [stL, depsB, Region.binds, Act.put, hF]
            · (go_wp2_with fail; exact ⟨rfl, Below.refl _ _, nbx rfl⟩)
            · (go_wp2_with fail; exact ⟨rfl, Below.refl _ _, nbx rfl⟩)
            · (go_wp2_with fail; exact ⟨rfl, Below.refl _ _, nbx rfl⟩)
            · (go_wp2_with fail; exact ⟨rfl, Below.refl _ _, nbx rfl⟩)
            · (with_reducible refine wpList_want (by kernel_rfl) ?_)
              (go_wp2_with fail; exact ⟨rfl, Below.refl _ _, nbx rfl⟩)
            · (with_reducible refine wpList_want (by kernel_rfl) ?_)
              (go_wp2_with fail; exact ⟨rfl, Below.refl _ _, nbx rfl⟩)
            · (go_wp2_with fail; exact ⟨rfl, Below.refl _ _, nbx rfl⟩)
            · (go_wp2_with fail; exact ⟨rfl, Below.refl _ _, nbx rfl⟩)
            · (with_reducible refine wpList_want (by kernel_rfl) ?_)
              (go_wp2_with fail; exact ⟨rfl, Below.refl _ _, nbx rfl⟩)
            · (with_reducible refine wpList_want (by kernel_rfl) ?_)
              go_wp2_with (go_at_call 38; (with_reducible refine (CO.out _).mono ?_); rintro e1 w1' ⟨v1, rfl, ho, hb1⟩)
              exact ⟨ho.base HP.out.size, hb1, nbx rfl⟩
            · (with_reducible refine wpList_want (by kernel_rfl) ?_)
              (obtain ⟨dI, hI1, hI2⟩ := row_Rat; refine wp_ld rfl 28 _ rfl (G) 0 rfl ((HC.out.keep HB5.out).keep HP.out) [.bool g7, .slice A7 n7 c7, .slice B7 m7 d7] (fun j v h => by rcases j with _ | _ | _ | _ | j <;> simp at h ⊢ <;> exact h) dI hI1 hI2 size_Rat ?_; go_wp2_with fail; exact ⟨rfl, Below.refl _ _, nbx rfl⟩)
            · (with_reducible refine wpList_want (by kernel_rfl) ?_)
              obtain ⟨hq, e10, -, e7⟩ := hF
              have HQ1 := Lib.hid hq
              obtain ⟨g1, A1, n1, c1, B1, m1, d1, e1⟩ := hq.form
              rw [e1] at HQ1
              simp only [e10, e7, e1]
              go_wp2_with (go_at_call 13; (with_reducible refine (CC.out _ _ _ (below_then HB5.out HP.out) HQ1.out).mono ?_); rintro e1' w1' ⟨rfl, hb1⟩)
              exact ⟨rfl, hb1, nbx rfl⟩
            · (with_reducible refine wpList_want (by kernel_rfl) ?_)
              (go_wp2_with fail; exact ⟨rfl, Below.refl _ _, nbx rfl⟩)
          intro vs w9 hp hF hpr
          have e7 : vs 7 = .bool true := hF 7 (by decide) rfl
          have e12 : vs 12 = .bool false := hF 12 (by decide) rfl
          have HB7 := Lib.hid hp
          clear hF hpr hp
          have x0 : w9.cell? ⟨w.heap.size, 0, none⟩ = some (.int .i64 b) := (HWX.out.keep HB7.out).2.1 0
          have x1 : w9.cell? ⟨w.heap.size, 1, none⟩ = some (.int .i64 (n : Int)) := (HWX.out.keep HB7.out).2.1 1
          have x2 : w9.cell? ⟨w.heap.size, 2, none⟩ = some (.int .i64 3) := (HWX.out.keep HB7.out).2.1 2
          have x3 : w9.cell? ⟨w.heap.size, 3, none⟩ = some (.int .i64 o) := (HWX.out.keep HB7.out).2.1 3
          show wpList Try.prog _ _ [_] _ _
          simp [stL, Act.put, e7, e12]
          obtain ⟨fv, hfv⟩ : ∃ c, fitsW b (n : Int) 3 o (t) = c := ⟨_, rfl⟩
          have CFT : Hid (∀ w1, Calls Try.prog 55 #[wordV b (n : Int) 3 o, .int .i64 (t)] w1 fun e w' => e = .returned (.bool fv) ∧ Below w1.heap.size w1 w') := Lib.hid fun w1 => hfv ▸ rf_Fits b n 3 o (t) w1
          have HFV := Lib.hid hfv
          clear hfv
          cases fv with
          | false =>
            go_wp2_with (go_at_call 55; (with_reducible refine (CFT.out _).mono ?_); rintro e8 w8 ⟨rfl, hb8⟩; have HB8 := Lib.hid hb8; clear hb8)
            refine bodyPost_ret (results_tmp2 rfl _ _ _) rfl ?_
            refine ⟨?_, below_then (below_then HBX.out HB7.out) HB8.out⟩
            have hnr := HNR.out
            unfold nearF
            rw [HYV.out, hnr, if_neg (by rw [HFV.out]; decide)]
            rfl
          | true =>
            go_wp2_with (go_at_call 55; (with_reducible refine (CFT.out _).mono ?_); rintro e8 w8 ⟨rfl, hb8⟩; have HB8 := Lib.hid hb8; clear hb8)
            refine bodyPost_ret (results_tmp2 rfl _ _ _) rfl ?_
            refine ⟨?_, below_then (below_then HBX.out HB7.out) HB8.out⟩
            have hnr := HNR.out
            unfold nearF
            rw [HYV.out, hnr, if_pos HFV.out]
            rfl
      · have hd : decide (t < 0) = false := decide_eq_false (by omega)
        have HT0 : Hid (0 ≤ t) := Lib.hid ht
        clear ht
        refine wp_region_growG (fun i => Nat.blt i 13) (fun w9 => Below w5.heap.size w5 w9) (gT [.v (.pointer (some ⟨w.heap.size, 2, none⟩)), .v (.int .i64 3), .v (.bool true), .v (.bool true), .v (.int .i64 t), .v (.bool false), .v (.bool false), .v (.bool false), .any, .any, .any, .any, .any]) (fun a b => Below a.heap.size a b) (dT w5.heap.size [.v (.pointer (some ⟨w.heap.size, 2, none⟩)), .v (.int .i64 3), .v (.bool true), .v (.bool true), .v (.int .i64 t), .v (.bool false), .v (.bool false), .v (.bool false), .any, .any, .any, .any, .any]) (by kernel_rfl) (by kernel_rfl) (Below.refl _ _).drew (fun j x a b h1 h2 => ⟨below_then h1 h2.1, fun i _ v => dT_keep h2.1 i v, Below.refl _ _, fun w0 h => below_then h h2.1⟩) ?_ ?_
        · refine ⟨?_, ?_, ?_, ?_, ?_, ?_, ?_, ?_, ?_, ?_, ?_, ?_, ?_, trivial⟩
          all_goals
            intro vs w9 hp hF
            have HP := Lib.hid hp
            have y2 : w9.cell? ⟨w.heap.size, 2, none⟩ = some (.int .i64 3) := (HWX.out.keep hp).2.1 2
            clear hp
            simp [depsB, Region.binds, dT] at hF
            simp [stL, depsB, Region.binds, Act.put, hF]
          · (go_wp2_with fail; exact ⟨rfl, Below.refl _ _, nbx rfl⟩)
          · (go_wp2_with fail; exact ⟨rfl, Below.refl _ _, nbx rfl⟩)
          · (go_wp2_with fail; exact ⟨rfl, Below.refl _ _, nbx rfl⟩)
          · (go_wp2_with fail; exact ⟨rfl, Below.refl _ _, nbx rfl⟩)
          · (with_reducible refine wpList_want (by kernel_rfl) ?_)
            (go_wp2_with fail; exact ⟨rfl, Below.refl _ _, nbx rfl⟩)
          · (with_reducible refine wpList_want (by kernel_rfl) ?_)
            (go_wp2_with fail; exact ⟨rfl, Below.refl _ _, nbx rfl⟩)
          · (go_wp2_with fail; exact ⟨rfl, Below.refl _ _, nbx rfl⟩)
          · (go_wp2_with fail; exact ⟨rfl, Below.refl _ _, nbx rfl⟩)
          · ((with_reducible refine wpList_skip (by kernel_rfl) ?_); exact ⟨rfl, undef, rfl, trivial, Below.refl _ _, nbx rfl⟩)
          · ((with_reducible refine wpList_skip (by kernel_rfl) ?_); exact ⟨rfl, undef, rfl, trivial, Below.refl _ _, nbx rfl⟩)
          · ((with_reducible refine wpList_skip (by kernel_rfl) ?_); exact ⟨rfl, undef, rfl, trivial, Below.refl _ _, nbx rfl⟩)
          · ((with_reducible refine wpList_skip (by kernel_rfl) ?_); exact ⟨rfl, undef, rfl, trivial, Below.refl _ _, nbx rfl⟩)
          · ((with_reducible refine wpList_skip (by kernel_rfl) ?_); exact ⟨rfl, undef, rfl, trivial, Below.refl _ _, nbx rfl⟩)
        intro vs w9 hp hF hpr
        have e7 : vs 7 = .bool false := hF 7 (by decide) rfl
        have HB7 := Lib.hid hp
        clear hF hpr hp
        cases ok with
        | false =>
          have HN0 : Hid (nearF b (n : Int) 3 o x = (0, false)) := Lib.hid (by
            have h := near3_big (intF_no HTO.out.2)
            unfold nearF
            rw [HYV.out, if_neg]
            rw [fits_big]
            · decide
            · omega)
          show wpList Try.prog _ _ [_] _ _
          simp [stL, Act.put, e7]
          go_wp2_with fail
          refine bodyPost_ret (results_tmp2 rfl _ _ _) rfl ?_
          exact ⟨by rw [HN0.out]; rfl, below_then HBX.out HB7.out⟩
        | true =>
          have HNR : Hid (nearI 3 y = t) := Lib.hid (by
            have h := intF_yes HTO.out.2
            rw [HTO.out.1] at h
            rw [h]
            exact near3_pos (by rw [← h]; exact HT0.out))
          have x0 : w9.cell? ⟨w.heap.size, 0, none⟩ = some (.int .i64 b) := (HWX.out.keep HB7.out).2.1 0
          have x1 : w9.cell? ⟨w.heap.size, 1, none⟩ = some (.int .i64 (n : Int)) := (HWX.out.keep HB7.out).2.1 1
          have x2 : w9.cell? ⟨w.heap.size, 2, none⟩ = some (.int .i64 3) := (HWX.out.keep HB7.out).2.1 2
          have x3 : w9.cell? ⟨w.heap.size, 3, none⟩ = some (.int .i64 o) := (HWX.out.keep HB7.out).2.1 3
          show wpList Try.prog _ _ [_] _ _
          simp [stL, Act.put, e7]
          obtain ⟨fv, hfv⟩ : ∃ c, fitsW b (n : Int) 3 o (t) = c := ⟨_, rfl⟩
          have CFT : Hid (∀ w1, Calls Try.prog 55 #[wordV b (n : Int) 3 o, .int .i64 (t)] w1 fun e w' => e = .returned (.bool fv) ∧ Below w1.heap.size w1 w') := Lib.hid fun w1 => hfv ▸ rf_Fits b n 3 o (t) w1
          have HFV := Lib.hid hfv
          clear hfv
          cases fv with
          | false =>
            go_wp2_with (go_at_call 55; (with_reducible refine (CFT.out _).mono ?_); rintro e8 w8 ⟨rfl, hb8⟩; have HB8 := Lib.hid hb8; clear hb8)
            refine bodyPost_ret (results_tmp2 rfl _ _ _) rfl ?_
            refine ⟨?_, below_then (below_then HBX.out HB7.out) HB8.out⟩
            have hnr := HNR.out
            unfold nearF
            rw [HYV.out, hnr, if_neg (by rw [HFV.out]; decide)]
            rfl
          | true =>
            go_wp2_with (go_at_call 55; (with_reducible refine (CFT.out _).mono ?_); rintro e8 w8 ⟨rfl, hb8⟩; have HB8 := Lib.hid hb8; clear hb8)
            refine bodyPost_ret (results_tmp2 rfl _ _ _) rfl ?_
            refine ⟨?_, below_then (below_then HBX.out HB7.out) HB8.out⟩
            have hnr := HNR.out
            unfold nearF
            rw [HYV.out, hnr, if_pos HFV.out]
            rfl
  · have HN : Hid (nearF b f r o x = (0, false)) := Lib.hid (by
      unfold nearF
      rw [if_neg]
      unfold fitsW
      rw [h]
      simp)
    rw [h] at CV
    clear h hx hxx
    go_enter Try.func9, Try.ntmps9
    go_upto_region 1 with fail
    have hB0 : Below w.heap.size w ((w.alloc (.cells #[.int .i64 b, .int .i64 f, .int .i64 r, .int .i64 o] 23)).alloc (.cells #[.bool neg, .slice A na c, .slice B m d] 28)) := (((Below.refl _ _).alloc (Nat.le_refl _) _).alloc (by simp; try omega) _)
    have bx0 : Box ((w.alloc (.cells #[.int .i64 b, .int .i64 f, .int .i64 r, .int .i64 o] 23)).alloc (.cells #[.bool neg, .slice A na c, .slice B m d] 28)) (w.heap.size) [.int .i64 b, .int .i64 f, .int .i64 r, .int .i64 o] := ((Box.new (by simp)).alloc _)
    have bx1 : Box ((w.alloc (.cells #[.int .i64 b, .int .i64 f, .int .i64 r, .int .i64 o] 23)).alloc (.cells #[.bool neg, .slice A na c, .slice B m d] 28)) (w.heap.size + 1) [.bool neg, .slice A na c, .slice B m d] := (Box.new (by simp))
    generalize (w.alloc (.cells #[.int .i64 b, .int .i64 f, .int .i64 r, .int .i64 o] 23)).alloc (.cells #[.bool neg, .slice A na c, .slice B m d] 28) = wA at hB0 bx0 bx1 ⊢
    have HA := Lib.hid (And.intro hB0 (And.intro bx0 bx1))
    clear hB0 bx0 bx1
    have x0 : wA.cell? ⟨w.heap.size, 0, none⟩ = some (.int .i64 b) := (HA.out.2.1).2.1 0
    have x1 : wA.cell? ⟨w.heap.size, 1, none⟩ = some (.int .i64 f) := (HA.out.2.1).2.1 1
    have x2 : wA.cell? ⟨w.heap.size, 2, none⟩ = some (.int .i64 r) := (HA.out.2.1).2.1 2
    have x3 : wA.cell? ⟨w.heap.size, 3, none⟩ = some (.int .i64 o) := (HA.out.2.1).2.1 3
    go_wp2_with (go_at_call 50; (with_reducible refine (CV.out _).mono ?_); rintro e1 w1 ⟨rfl, hb1⟩; have HB1 := Lib.hid hb1; clear hb1)
    refine bodyPost_ret (results_tmp2 rfl _ _ _) rfl ?_
    exact ⟨by rw [HN.out]; rfl, below_then HA.out.1 HB1.out⟩
end Go.Proofs.Ytmdfgidejdiiiaa
