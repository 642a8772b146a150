/- The walk of FixedNearest. Printed by gen_kc.py. -/
import Derived.Test.YtmdfgidejdiiiaanKb
import Derived.Test.YtmdfgidejdiiiaanCtoLe
set_option linter.unusedVariables false
set_option linter.unusedSimpArgs false
namespace Go.Proofs.Ytmdfgidejdiiiaa
open Go.RowKit
theorem nearI_int (r t : Int) : nearI r (t : Rat) = t := by
  unfold nearI
  by_cases h2 : r = 2
  · rw [if_pos h2]
    have a1 : t ≤ ((t : Rat) + ((1 : Int) : Rat) / ((2 : Int) : Rat)).floor := Rat.le_floor_iff.2 (by
      have : (0 : Rat) ≤ ((1 : Int) : Rat) / ((2 : Int) : Rat) := by decide +kernel
      have := Rat.add_le_add_left (c := (t : Rat)) |>.2 this
      rwa [Rat.add_zero] at this)
    have a2 : ((t : Rat) + ((1 : Int) : Rat) / ((2 : Int) : Rat)).floor < t + 1 := Rat.floor_lt_iff.2 (by
      have : ((1 : Int) : Rat) / ((2 : Int) : Rat) < 1 := by decide +kernel
      have := Rat.add_lt_add_left (c := (t : Rat)) |>.2 this
      rw [Rat.intCast_add]
      exact this)
    omega
  · rw [if_neg h2]
    split
    · rw [← Rat.intCast_neg, Rat.floor_intCast]; omega
    · exact Rat.floor_intCast _
theorem near_back {b f r o t : Int} (hk : okW b f r o = true) (hf : fitsW b f r o t = true) : nearF b f r o (valF b f r o t) = (t, true) := by
  have h1 : 0 < (2 : Int) ^ f.toNat := pow2_pos _
  unfold nearF valF
  rw [if_pos hk, frac_mul h1, nearI_int, if_pos hf]
theorem size_Wd : (Try.prog.info? 23).map (·.size) = some 4 := by kernel_rfl
theorem row_Wd : ∃ d, Try.prog.underlying 23 = some d ∧ d.isRow = true := ⟨_, Try.underlying23, rfl⟩
def RatOk (w : World) (u : Bool × (Option Addr × Nat × List Int) × (Option Addr × Nat × List Int)) : Prop := (DigA w u.2.1.1 u.2.1.2.2 ∧ u.2.1.2.2.length ≤ u.2.1.2.1) ∧ DigA w u.2.2.1 u.2.2.2.2 ∧ u.2.2.2.2.length ≤ u.2.2.2.1
set_option maxRecDepth 100000 in
set_option maxHeartbeats 4000000 in
theorem law_FixedNearest (u1 : Int × Int × Int × Int) (u2 : Bool × (Option Addr × Nat × List Int) × (Option Addr × Nat × List Int)) (k v : Int) (w : World) (_ : I64 u1.1 ∧ I64 u1.2.1 ∧ I64 u1.2.2.1 ∧ I64 u1.2.2.2) (hr : RatOk w u2) (_ : I64 k) (hv : I64 v) :
    Calls Try.prog 3 #[wordV u1.1 u1.2.1 u1.2.2.1 u1.2.2.2, .agg #[.bool u2.1, .slice u2.2.1.1 u2.2.1.2.2.length u2.2.1.2.1, .slice u2.2.2.1 u2.2.2.2.2.length u2.2.2.2.1], .int .i64 k, .int .i64 v] w fun e w' => e = .returned (.bool true) ∧ Below w.heap.size w w' := by
  obtain ⟨b, f, r, o⟩ := u1
  obtain ⟨neg, ⟨A, c, l⟩, B, d, rr⟩ := u2
  obtain ⟨⟨hl, hlc⟩, hrr, hrc⟩ := hr
  dsimp only at *
  have HI := Lib.hid hv
  obtain ⟨na, hna⟩ : ∃ n, l.length = n := ⟨_, rfl⟩
  obtain ⟨m, hm⟩ : ∃ n, rr.length = n := ⟨_, rfl⟩
  rw [hna] at hlc ⊢
  rw [hm] at hrc ⊢
  obtain ⟨x, hx⟩ : ∃ x, frac neg l rr = x := ⟨_, rfl⟩
  obtain ⟨dsR, hR1, hR2⟩ := row_Rat
  have HRR := Lib.hid (And.intro hR1 hR2)
  clear hR1 hR2
  obtain ⟨dsW, hW1, hW2⟩ := row_Wd
  have HWW := Lib.hid (And.intro hW1 hW2)
  clear hW1 hW2
  by_cases h1 : na ≤ 8
  · by_cases h2 : m ≤ 8
    · have hR : RatA w (.agg #[.bool neg, .slice A na c, .slice B m d]) x 8 := ⟨neg, A, na, c, l, B, m, d, rr, rfl, ⟨hl, hna, hlc, h1⟩, ⟨hrr, hm, hrc, h2⟩, hx.symm⟩
      obtain ⟨y, hy⟩ : ∃ y, (nearF b f r o x).1 = y := ⟨_, rfl⟩
      obtain ⟨ok, hok⟩ : ∃ y, (nearF b f r o x).2 = y := ⟨_, rfl⟩
      have CN : Hid (∀ w1, Below w.heap.size w w1 → Calls Try.prog 8 #[wordV b f r o, .agg #[.bool neg, .slice A na c, .slice B m d]] w1 fun e w' => e = .returned (.tuple #[.int .i64 y, .bool ok]) ∧ Below w1.heap.size w1 w') := Lib.hid fun w1 hb => by
        have h := fx_Nearest b f r o _ x 8 w1 (hR.grow hb) (by decide) (by decide)
        unfold NearPost at h
        rw [hy, hok] at h
        exact h
      have CM : Hid (∀ w1, Below w.heap.size w w1 → Calls Try.prog 9 #[wordV b f r o, .agg #[.bool neg, .slice A na c, .slice B m d]] w1 fun e w' => e = .returned (.tuple #[.int .i64 y, .bool ok]) ∧ Below w1.heap.size w1 w') := Lib.hid fun w1 hb => by
        have h := r21_Nearest b f r o _ x 8 w1 (hR.grow hb) (by decide) (by decide)
        unfold NearPost at h
        rw [hy, hok] at h
        exact h
      have hwk := mkWF_ok k
      obtain ⟨⟨b2, f2, r2, o2⟩, hu⟩ : ∃ u, mkW k 4 24 0 = u := ⟨_, rfl⟩
      rw [hu] at hwk
      dsimp only at hwk
      have CW : Hid (∀ w1, Calls Try.prog 10 #[.int .i64 k, .int .i64 4, .int .i64 24, .int .i64 0] w1 fun e w' => e = .returned (wordV b2 f2 r2 o2) ∧ Below w1.heap.size w1 w') := Lib.hid fun w1 => by
        have h := wd_WordF k w1
        rw [hu] at h
        exact h
      have hin := wordF_in (b := b2) (f := f2) (r := r2) (o := o2) v
      obtain ⟨t, ht⟩ : ∃ t, wordF b2 f2 r2 o2 v = t := ⟨_, rfl⟩
      rw [ht] at hin
      have hfit : fitsW b2 f2 r2 o2 t = true := by unfold fitsW; rw [hwk]; exact inB_iff.2 hin
      have hbk := near_back hwk hfit
      have hlh := low_high b2 f2 r2 o2
      have hti : I64 t := by obtain ⟨q1, q2, q3, q4⟩ := hlh; unfold I64; omega
      have CS : Hid (∀ (w1 : World) (y1 : Int) (n1 : Nat), y1 = v → n1 = w1.heap.size → Calls Try.prog 11 #[wordV b2 f2 r2 o2, .slice (some ⟨n1, 0, none⟩) 1 1, .int .i64 1] (w1.alloc (.cells #[.int .i64 y1] 3)) fun e w' => ∃ ad c, e = .returned (.slice (some ad) 1 c) ∧ w'.cell? ad = some (.int .i64 t) ∧ Below (w1.alloc (.cells #[.int .i64 y1] 3)).heap.size (w1.alloc (.cells #[.int .i64 y1] 3)) w') := Lib.hid fun w1 y1 n1 e1 e2 => by
        subst e1 e2
        refine (wd_Words1 _ _ _ _ _ _ _ _ (Ints.one HI.out)).mono ?_
        rintro e w3 ⟨v3, rfl, hown, hb3⟩
        rw [ht] at hown
        obtain ⟨A5, c5, rfl, _, hI5⟩ := hown.form
        obtain ⟨ad, x5, rfl, _, hx5, hcx, _, _⟩ := hI5.at_ (k := 0) (by simp)
        simp at hx5
        subst hx5
        exact ⟨ad, c5, rfl, hcx, hb3⟩
      obtain ⟨z2, hz2⟩ : ∃ z, valF b2 f2 r2 o2 t = z := ⟨_, rfl⟩
      obtain ⟨z1, hz1⟩ : ∃ z, valF b f r o v = z := ⟨_, rfl⟩
      have CV2 : Hid (∀ w1, Calls Try.prog 12 #[wordV b2 f2 r2 o2, .int .i64 t] w1 (RetQ w1 z2 2)) := Lib.hid fun w1 => hz2 ▸ fx_Value b2 f2 r2 o2 t w1 hti
      have CN2 : Hid (∀ u w1 bb, RatQ bb w1 u z2 2 → Calls Try.prog 8 #[wordV b2 f2 r2 o2, u] w1 fun e w' => e = .returned (.tuple #[.int .i64 t, .bool true]) ∧ Below w1.heap.size w1 w') := Lib.hid fun u w1 bb hu => by
        have h := fx_Nearest b2 f2 r2 o2 u z2 2 w1 hu.arg (by decide) (by decide)
        unfold NearPost at h
        rw [← hz2, hbk] at h
        exact h
      have CV1 : Hid (∀ w1, Calls Try.prog 12 #[wordV b f r o, .int .i64 v] w1 (RetQ w1 z1 2)) := Lib.hid fun w1 => hz1 ▸ fx_Value b f r o v w1 HI.out
      have CR1 : Hid (∀ w1, Calls Try.prog 14 #[wordV b f r o, .int .i64 v] w1 (RetQ w1 z1 4)) := Lib.hid fun w1 => hz1 ▸ r21_Value b f r o v w1 HI.out
      have CC : Hid (∀ u1 u2 w1 bb, RatQ bb w1 u1 z1 2 → RatQ bb w1 u2 z1 4 → Calls Try.prog 13 #[u1, u2] w1 fun e w' => e = .returned (.int .i64 0) ∧ Below w1.heap.size w1 w') := Lib.hid fun u1 u2 w1 bb h1 h2 => by
        have h := r3_Compare u1 u2 z1 z1 2 4 w1 h1.arg h2.arg (by decide) (by decide) (by decide) (by decide)
        rw [show cmpR z1 z1 = 0 from by unfold cmpR; rw [if_neg (Rat.lt_irrefl), if_pos rfl]] at h
        exact h
      have q1 : (na : Int) ≤ 8 := by omega
      have q2 : (m : Int) ≤ 8 := by omega
      have q3 : decide ((8 : Int) < (na : Int)) = false := decide_eq_false (by omega)
      have q4 : decide ((8 : Int) < (m : Int)) = false := decide_eq_false (by omega)
      clear hl hrr hlc hrc hna hm hx hR hv h1 h2 hy hok hwk hu hin ht hfit hbk hlh hti hz1 hz2
      go_enter Try.func3, Try.ntmps3
      go_upto_region 1 with fail
      have hB0 : Below w.heap.size w ((w.alloc (.cells #[.int .i64 b, .int .i64 f, .int .i64 r, .int .i64 o] 23)).alloc (.cells #[.bool neg, .slice A na c, .slice B m d] 28)) := (((Below.refl _ _).alloc (Nat.le_refl _) _).alloc (by simp; try omega) _)
      have bx0 : Box ((w.alloc (.cells #[.int .i64 b, .int .i64 f, .int .i64 r, .int .i64 o] 23)).alloc (.cells #[.bool neg, .slice A na c, .slice B m d] 28)) (w.heap.size) [.int .i64 b, .int .i64 f, .int .i64 r, .int .i64 o] := ((Box.new (by simp)).alloc _)
      have bx1 : Box ((w.alloc (.cells #[.int .i64 b, .int .i64 f, .int .i64 r, .int .i64 o] 23)).alloc (.cells #[.bool neg, .slice A na c, .slice B m d] 28)) (w.heap.size + 1) [.bool neg, .slice A na c, .slice B m d] := (Box.new (by simp))
      generalize (w.alloc (.cells #[.int .i64 b, .int .i64 f, .int .i64 r, .int .i64 o] 23)).alloc (.cells #[.bool neg, .slice A na c, .slice B m d] 28) = wA at hB0 bx0 bx1 ⊢
      have HA := Lib.hid (And.intro hB0 (And.intro bx0 bx1))
      clear hB0 bx0 bx1
      have x1 : wA.cell? ⟨w.heap.size + 1, 1, none⟩ = some (.slice A na c) := HA.out.2.2.2.1 1
      have x2 : wA.cell? ⟨w.heap.size + 1, 2, none⟩ = some (.slice B m d) := HA.out.2.2.2.1 2
      go_upto_region 3 with fail
      clear x1 x2 q1 q2 q3 q4
      go_upto_region 4 with (first
        | ((with_reducible show wpList _ _ _ (Oper.mk _ (.load 23 _) _ _ _ _ :: _) _ _); refine wp_ld rfl 23 _ rfl (w.heap.size) 0 rfl (HA.out.2.1) [.int .i64 b, .int .i64 f, .int .i64 r, .int .i64 o] (fun j v h => by rcases j with _ | _ | _ | _ | j <;> simp at h ⊢ <;> exact h) dsW HWW.out.1 HWW.out.2 size_Wd ?_)
        | ((with_reducible show wpList _ _ _ (Oper.mk _ (.load 28 _) _ _ _ _ :: _) _ _); refine wp_ld rfl 28 _ rfl (w.heap.size + 1) 0 rfl (HA.out.2.2) [.bool neg, .slice A na c, .slice B m d] (fun j v h => by rcases j with _ | _ | _ | j <;> simp at h ⊢ <;> exact h) dsR HRR.out.1 HRR.out.2 size_Rat ?_)
        | (go_at_call 8; (with_reducible refine (CN.out _ HA.out.1).mono ?_); rintro e1 w1 ⟨rfl, hb1⟩; have HB1 := Lib.hid hb1; clear hb1))
      have H1 := Lib.hid (And.intro (below_then HA.out.1 HB1.out) (And.intro (HA.out.2.1.keep HB1.out) (HA.out.2.2.keep HB1.out)))
      clear HA HB1 CN
      go_upto_region 5 with (first
        | ((with_reducible show wpList _ _ _ (Oper.mk _ (.load 23 _) _ _ _ _ :: _) _ _); refine wp_ld rfl 23 _ rfl (w.heap.size) 0 rfl (H1.out.2.1) [.int .i64 b, .int .i64 f, .int .i64 r, .int .i64 o] (fun j v h => by rcases j with _ | _ | _ | _ | j <;> simp at h ⊢ <;> exact h) dsW HWW.out.1 HWW.out.2 size_Wd ?_)
        | ((with_reducible show wpList _ _ _ (Oper.mk _ (.load 28 _) _ _ _ _ :: _) _ _); refine wp_ld rfl 28 _ rfl (w.heap.size + 1) 0 rfl (H1.out.2.2) [.bool neg, .slice A na c, .slice B m d] (fun j v h => by rcases j with _ | _ | _ | j <;> simp at h ⊢ <;> exact h) dsR HRR.out.1 HRR.out.2 size_Rat ?_)
        | (go_at_call 9; (with_reducible refine (CM.out _ H1.out.1).mono ?_); rintro e2 w2 ⟨rfl, hb2⟩; have HB2 := Lib.hid hb2; clear hb2))
      have H2 := Lib.hid (And.intro (below_then H1.out.1 HB2.out) (H1.out.2.1.keep HB2.out))
      clear H1 HB2 CM
      go_upto_region 6 with (first
        | (go_at_call 10; (with_reducible refine (CW.out _).mono ?_); rintro e3 w3 ⟨rfl, hb3⟩; have HB3 := Lib.hid hb3; clear hb3)
        | ((with_reducible show wpList _ _ _ (Oper.mk none (.store 23 _ _) _ _ _ _ :: _) _ _); refine wp_st rfl 23 _ _ rfl (w3.heap.size) 0 [_, _, _, _] rfl rfl size_Wd rfl (Box.new (by simp)) (Nat.le_refl _) rfl ?_; intro W4 c4 g4))
      have HC4 : Hid (Box W4 w3.heap.size [.int .i64 b2, .int .i64 f2, .int .i64 r2, .int .i64 o2]) := Lib.hid c4
      have hb4 : Below w3.heap.size w3 W4 := put_facts ((Below.refl _ _).alloc (Nat.le_refl _) _) (Nat.le_refl _) g4
      have H4 := Lib.hid (And.intro (below_then (below_then H2.out.1 HB3.out) hb4) ((H2.out.2.keep HB3.out).keep hb4))
      clear c4 g4 hb4 H2 HB3 CW
      obtain ⟨G, hG⟩ : ∃ G, w3.heap.size = G := ⟨_, rfl⟩
      rw [hG] at HC4 ⊢
      clear hG
      go_upto_region 7 with (first
        | ((with_reducible show wpList _ _ _ (Oper.mk _ (.load 23 _) _ _ _ _ :: _) _ _); refine wp_ld rfl 23 _ rfl (G) 0 rfl (HC4.out) [.int .i64 b2, .int .i64 f2, .int .i64 r2, .int .i64 o2] (fun j v h => by rcases j with _ | _ | _ | _ | j <;> simp at h ⊢ <;> exact h) dsW HWW.out.1 HWW.out.2 size_Wd ?_)
        | (go_at_call 11; (with_reducible refine (CS.out _ _ _ rfl (by first | rfl | simp)).mono ?_); rintro e5 w5 ⟨ad, c5, rfl, hcx, hb5⟩; have HB5 := Lib.hid hb5; clear hb5))
      have hb5 : Below W4.heap.size W4 w5 := ((Below.refl _ _).alloc (Nat.le_refl _) _).trans (HB5.out.mono (by simp))
      have HC5 := Lib.hid (HC4.out.keep hb5)
      have H5 := Lib.hid (And.intro (below_then H4.out.1 hb5) (H4.out.2.keep hb5))
      clear hb5 HB5 HC4 H4 hcx CS
      refine wp_region_grow7 (fun i => Nat.blt i 8) (fun i => Nat.beq i 7) (fun w9 => Below w5.heap.size w5 w9) (gT [.v (.agg #[.int .i64 b2, .int .i64 f2, .int .i64 r2, .int .i64 o2]), .v (.agg #[.int .i64 b2, .int .i64 f2, .int .i64 r2, .int .i64 o2]), .v (.int .i64 t), .rq z2 2, .v (.tuple #[.int .i64 t, .bool true]), .v (.tuple #[.int .i64 t, .bool true]), .v (.int .i64 t), .v (.bool true)]) (fun a b => Below a.heap.size a b) (dT w5.heap.size [.v (.agg #[.int .i64 b2, .int .i64 f2, .int .i64 r2, .int .i64 o2]), .v (.agg #[.int .i64 b2, .int .i64 f2, .int .i64 r2, .int .i64 o2]), .v (.int .i64 t), .rq z2 2, .v (.tuple #[.int .i64 t, .bool true]), .v (.tuple #[.int .i64 t, .bool true]), .v (.int .i64 t), .v (.bool true)]) (by kernel_rfl) (by kernel_rfl) (Below.refl _ _).drew (fun j x a b h1 h2 => ⟨below_then h1 h2.1, fun i _ v => dT_keep h2.1 i v, Below.refl _ _, fun w0 h => below_then h h2.1⟩) (fun j v w h _ => ⟨Below.refl _ _, (show j = 7 by simpa using h) ▸ nbx rfl⟩) ?_ (by
        intro j o ho _ hl vs w9 hp hF
        obtain rfl : j = 7 := by simpa using hl
        injection ho with ho
        subst ho
        have e : vs 5 = .tuple #[.int .i64 t, .bool true] := hF 5 (by decide)
        exact ⟨.bool true, fun w' => by simp [execOp, stL, depsB, Region.binds, go_sem, Act.put, e], rfl⟩) ?_
      · refine ⟨?_, ?_, ?_, ?_, ?_, ?_, ?_, ?_, trivial⟩
        all_goals
          intro vs w9 hp hF
          have HP := Lib.hid hp
          clear hp
          simp [depsB, Region.binds, dT] at hF
          simp [stL, depsB, Region.binds, Act.put, hF]
        · (refine wp_ld rfl 23 _ rfl (G) 0 rfl (HC5.out.keep HP.out) [.int .i64 b2, .int .i64 f2, .int .i64 r2, .int .i64 o2] (fun j v h => by rcases j with _ | _ | _ | _ | j <;> simp at h ⊢ <;> exact h) dsW HWW.out.1 HWW.out.2 size_Wd ?_; go_wp2_with fail; exact ⟨rfl, Below.refl _ _, nbx rfl⟩)
        · (refine wp_ld rfl 23 _ rfl (G) 0 rfl (HC5.out.keep HP.out) [.int .i64 b2, .int .i64 f2, .int .i64 r2, .int .i64 o2] (fun j v h => by rcases j with _ | _ | _ | _ | j <;> simp at h ⊢ <;> exact h) dsW HWW.out.1 HWW.out.2 size_Wd ?_; go_wp2_with fail; exact ⟨rfl, Below.refl _ _, nbx rfl⟩)
        · (go_wp2_with fail; exact ⟨rfl, Below.refl _ _, nbx rfl⟩)
        · go_wp2_with (go_at_call 12; (with_reducible refine (CV2.out _).mono ?_); rintro e1 w1' ⟨v1, rfl, ho, hb1⟩)
          exact ⟨ho.base HP.out.size, hb1, nbx rfl⟩
        · obtain ⟨e0, hq⟩ := hF
          have HQ1 := Lib.hid hq
          obtain ⟨g1, A1, n1, c1, B1, m1, d1, e1⟩ := hq.form
          rw [e1] at HQ1
          simp only [e0, e1]
          go_wp2_with (go_at_call 8; (with_reducible refine (CN2.out _ _ _ HQ1.out).mono ?_); rintro e1' w1' ⟨rfl, hb1⟩)
          exact ⟨rfl, hb1, nbx rfl⟩
        · (go_wp2_with fail; exact ⟨rfl, Below.refl _ _, nbx rfl⟩)
        · (go_wp2_with fail; exact ⟨rfl, Below.refl _ _, nbx rfl⟩)
        · (go_wp2_with fail; exact ⟨rfl, Below.refl _ _, nbx rfl⟩)
      intro vs w9 hp hF hpr
      have e6 : vs 6 = .int .i64 t := hF 6 (by decide) rfl
      have e7 : vs 7 = .bool true := hF 7 (by decide) rfl
      have H7 := Lib.hid (And.intro (below_then H5.out.1 hp) (H5.out.2.keep hp))
      clear hF hpr hp H5 HC5 CV2 CN2
      show wpList Try.prog _ _ [_, _] _ _
      simp [stL, Act.put, e6, e7]
      clear e6 e7
      obtain ⟨w7, rfl⟩ : ∃ w7 : World, w7 = w9 := ⟨_, rfl⟩
      go_upto_region 8 with fail
      refine wp_region_growG (fun i => Nat.blt i 29) (fun w9 => Below w7.heap.size w7 w9) (gT [.v (.bool true), .v (.bool true), .v (.int .i64 y), .v (.int .i64 y), .v (.bool true), .v (.bool true), .v (.bool true), .v (.bool ok), .v (.bool ok), .v (.bool true), .v (.bool true), .v (.bool true), .v (.agg #[.int .i64 b, .int .i64 f, .int .i64 r, .int .i64 o]), .v (.int .i64 v), .rq z1 2, .v (.agg #[.int .i64 b, .int .i64 f, .int .i64 r, .int .i64 o]), .v (.int .i64 v), .rq z1 4, .v (.int .i64 0), .v (.bool true), .v (.bool true), .v (.bool true), .v (.bool true), .v (.bool true), .v (.bool true), .v (.int .i64 t), .v (.int .i64 t), .v (.bool true), .v (.bool true)]) (fun a b => Below a.heap.size a b) (dT w7.heap.size [.v (.bool true), .v (.bool true), .v (.int .i64 y), .v (.int .i64 y), .v (.bool true), .v (.bool true), .v (.bool true), .v (.bool ok), .v (.bool ok), .v (.bool true), .v (.bool true), .v (.bool true), .v (.agg #[.int .i64 b, .int .i64 f, .int .i64 r, .int .i64 o]), .v (.int .i64 v), .rq z1 2, .v (.agg #[.int .i64 b, .int .i64 f, .int .i64 r, .int .i64 o]), .v (.int .i64 v), .rq z1 4, .v (.int .i64 0), .v (.bool true), .v (.bool true), .v (.bool true), .v (.bool true), .v (.bool true), .v (.bool true), .v (.int .i64 t), .v (.int .i64 t), .v (.bool true), .v (.bool true)]) (by kernel_rfl) (by kernel_rfl) (Below.refl _ _).drew (fun j x a b h1 h2 => ⟨below_then h1 h2.1, fun i _ v => dT_keep h2.1 i v, Below.refl _ _, fun w0 h => below_then h h2.1⟩) ?_ ?_
      · refine ⟨?_, ?_, ?_, ?_, ?_, ?_, ?_, ?_, ?_, ?_, ?_, ?_, ?_, ?_, ?_, ?_, ?_, ?_, ?_, ?_, ?_, ?_, ?_, ?_, ?_, ?_, ?_, ?_, ?_, trivial⟩
        all_goals
          intro vs w9 hp hF
          have HP := Lib.hid hp
          clear hp
          simp [depsB, Region.binds, dT] at hF
          simp [stL, depsB, Region.binds, Act.put, hF]
        · go_wp2_with (go_at_call 7; (with_reducible refine (known21 _).mono ?_); rintro e1 w1' ⟨rfl, hb1⟩)
          exact ⟨rfl, hb1, nbx rfl⟩
        · (go_wp2_with fail; exact ⟨rfl, Below.refl _ _, nbx rfl⟩)
        · (with_reducible refine wpList_want (by kernel_rfl) ?_)
          (go_wp2_with fail; exact ⟨rfl, Below.refl _ _, nbx rfl⟩)
        · (with_reducible refine wpList_want (by kernel_rfl) ?_)
          (go_wp2_with fail; exact ⟨rfl, Below.refl _ _, nbx rfl⟩)
        · (with_reducible refine wpList_want (by kernel_rfl) ?_)
          (go_wp2_with fail; exact ⟨rfl, Below.refl _ _, nbx rfl⟩)
        · (go_wp2_with fail; exact ⟨rfl, Below.refl _ _, nbx rfl⟩)
        · (go_wp2_with fail; exact ⟨rfl, Below.refl _ _, nbx rfl⟩)
        · (with_reducible refine wpList_want (by kernel_rfl) ?_)
          (go_wp2_with fail; exact ⟨rfl, Below.refl _ _, nbx rfl⟩)
        · (with_reducible refine wpList_want (by kernel_rfl) ?_)
          (go_wp2_with fail; exact ⟨rfl, Below.refl _ _, nbx rfl⟩)
        · (with_reducible refine wpList_want (by kernel_rfl) ?_)
          (go_wp2_with fail; exact ⟨rfl, Below.refl _ _, nbx rfl⟩)
        · (go_wp2_with fail; exact ⟨rfl, Below.refl _ _, nbx rfl⟩)
        · (go_wp2_with fail; exact ⟨rfl, Below.refl _ _, nbx rfl⟩)
        · (with_reducible refine wpList_want (by kernel_rfl) ?_)
          (refine wp_ld rfl 23 _ rfl (w.heap.size) 0 rfl (H7.out.2.keep HP.out) [.int .i64 b, .int .i64 f, .int .i64 r, .int .i64 o] (fun j v h => by rcases j with _ | _ | _ | _ | j <;> simp at h ⊢ <;> exact h) dsW HWW.out.1 HWW.out.2 size_Wd ?_; go_wp2_with fail; exact ⟨rfl, Below.refl _ _, nbx rfl⟩)
        · (with_reducible refine wpList_want (by kernel_rfl) ?_)
          (go_wp2_with fail; exact ⟨rfl, Below.refl _ _, nbx rfl⟩)
        · (with_reducible refine wpList_want (by kernel_rfl) ?_)
          go_wp2_with (go_at_call 12; (with_reducible refine (CV1.out _).mono ?_); rintro e1 w1' ⟨v1, rfl, ho, hb1⟩)
          exact ⟨ho.base HP.out.size, hb1, nbx rfl⟩
        · (with_reducible refine wpList_want (by kernel_rfl) ?_)
          (refine wp_ld rfl 23 _ rfl (w.heap.size) 0 rfl (H7.out.2.keep HP.out) [.int .i64 b, .int .i64 f, .int .i64 r, .int .i64 o] (fun j v h => by rcases j with _ | _ | _ | _ | j <;> simp at h ⊢ <;> exact h) dsW HWW.out.1 HWW.out.2 size_Wd ?_; go_wp2_with fail; exact ⟨rfl, Below.refl _ _, nbx rfl⟩)
        · (with_reducible refine wpList_want (by kernel_rfl) ?_)
          (go_wp2_with fail; exact ⟨rfl, Below.refl _ _, nbx rfl⟩)
        · (with_reducible refine wpList_want (by kernel_rfl) ?_)
          go_wp2_with (go_at_call 14; (with_reducible refine (CR1.out _).mono ?_); rintro e1 w1' ⟨v1, rfl, ho, hb1⟩)
          exact ⟨ho.base HP.out.size, hb1, nbx rfl⟩
        · obtain ⟨hq, hq2, e11⟩ := hF
          have HQ1 := Lib.hid hq
          obtain ⟨g1, A1, n1, c1, B1, m1, d1, e1⟩ := hq.form
          rw [e1] at HQ1
          have HQ2 := Lib.hid hq2
          obtain ⟨g2, A2, n2, c2, B2, m2, d2, e2⟩ := hq2.form
          rw [e2] at HQ2
          simp only [e1, e2, e11]
          (with_reducible refine wpList_want (by kernel_rfl) ?_)
          go_wp2_with (go_at_call 13; (with_reducible refine (CC.out _ _ _ _ HQ1.out HQ2.out).mono ?_); rintro e1' w1' ⟨rfl, hb1⟩)
          exact ⟨rfl, hb1, nbx rfl⟩
        · (with_reducible refine wpList_want (by kernel_rfl) ?_)
          (go_wp2_with fail; exact ⟨rfl, Below.refl _ _, nbx rfl⟩)
        · (go_wp2_with fail; exact ⟨rfl, Below.refl _ _, nbx rfl⟩)
        · (go_wp2_with fail; exact ⟨rfl, Below.refl _ _, nbx rfl⟩)
        · (with_reducible refine wpList_want (by kernel_rfl) ?_)
          (go_wp2_with fail; exact ⟨rfl, Below.refl _ _, nbx rfl⟩)
        · (go_wp2_with fail; exact ⟨rfl, Below.refl _ _, nbx rfl⟩)
        · (go_wp2_with fail; exact ⟨rfl, Below.refl _ _, nbx rfl⟩)
        · (with_reducible refine wpList_want (by kernel_rfl) ?_)
          (go_wp2_with fail; exact ⟨rfl, Below.refl _ _, nbx rfl⟩)
        · (with_reducible refine wpList_want (by kernel_rfl) ?_)
          (go_wp2_with fail; exact ⟨rfl, Below.refl _ _, nbx rfl⟩)
        · (with_reducible refine wpList_want (by kernel_rfl) ?_)
          (go_wp2_with fail; exact ⟨rfl, Below.refl _ _, nbx rfl⟩)
        · (go_wp2_with fail; exact ⟨rfl, Below.refl _ _, nbx rfl⟩)
      intro vs w9 hp hF hpr
      have e28 : vs 28 = .bool true := hF 28 (by decide) rfl
      have HB8 := Lib.hid (below_then H7.out.1 hp)
      clear hF hpr hp
      show wpList Try.prog _ _ [_] _ _
      simp [stL, Act.put, e28]
      go_wp2_with fail
      go_ret
      exact ⟨rfl, HB8.out⟩
    · have q1 : (na : Int) ≤ 8 := by omega
      have q2 : (8 : Int) < (m : Int) := by omega
      have q3 : decide ((8 : Int) < (na : Int)) = false := decide_eq_false (by omega)
      have q4 : decide ((8 : Int) < (m : Int)) = true := decide_eq_true (by omega)
      clear hl hrr hlc hrc hna hm hx hv h1 h2
      go_enter Try.func3, Try.ntmps3
      go_upto_region 1 with fail
      have hB0 : Below w.heap.size w ((w.alloc (.cells #[.int .i64 b, .int .i64 f, .int .i64 r, .int .i64 o] 23)).alloc (.cells #[.bool neg, .slice A na c, .slice B m d] 28)) := (((Below.refl _ _).alloc (Nat.le_refl _) _).alloc (by simp; try omega) _)
      have bx0 : Box ((w.alloc (.cells #[.int .i64 b, .int .i64 f, .int .i64 r, .int .i64 o] 23)).alloc (.cells #[.bool neg, .slice A na c, .slice B m d] 28)) (w.heap.size) [.int .i64 b, .int .i64 f, .int .i64 r, .int .i64 o] := ((Box.new (by simp)).alloc _)
      have bx1 : Box ((w.alloc (.cells #[.int .i64 b, .int .i64 f, .int .i64 r, .int .i64 o] 23)).alloc (.cells #[.bool neg, .slice A na c, .slice B m d] 28)) (w.heap.size + 1) [.bool neg, .slice A na c, .slice B m d] := (Box.new (by simp))
      generalize (w.alloc (.cells #[.int .i64 b, .int .i64 f, .int .i64 r, .int .i64 o] 23)).alloc (.cells #[.bool neg, .slice A na c, .slice B m d] 28) = wA at hB0 bx0 bx1 ⊢
      have HA := Lib.hid (And.intro hB0 (And.intro bx0 bx1))
      clear hB0 bx0 bx1
      have x1 : wA.cell? ⟨w.heap.size + 1, 1, none⟩ = some (.slice A na c) := HA.out.2.2.2.1 1
      have x2 : wA.cell? ⟨w.heap.size + 1, 2, none⟩ = some (.slice B m d) := HA.out.2.2.2.1 2
      go_wp2_with (go_at_call 7; (with_reducible refine (known21 _).mono ?_); rintro e1 w1 ⟨rfl, hb1⟩)
      go_ret
      exact ⟨rfl, below_then HA.out.1 hb1⟩
  · have q1 : (8 : Int) < (na : Int) := by omega
    have q3 : decide ((8 : Int) < (na : Int)) = true := decide_eq_true (by omega)
    clear hl hrr hlc hrc hna hm hx hv h1
    go_enter Try.func3, Try.ntmps3
    go_upto_region 1 with fail
    have hB0 : Below w.heap.size w ((w.alloc (.cells #[.int .i64 b, .int .i64 f, .int .i64 r, .int .i64 o] 23)).alloc (.cells #[.bool neg, .slice A na c, .slice B m d] 28)) := (((Below.refl _ _).alloc (Nat.le_refl _) _).alloc (by simp; try omega) _)
    have bx0 : Box ((w.alloc (.cells #[.int .i64 b, .int .i64 f, .int .i64 r, .int .i64 o] 23)).alloc (.cells #[.bool neg, .slice A na c, .slice B m d] 28)) (w.heap.size) [.int .i64 b, .int .i64 f, .int .i64 r, .int .i64 o] := ((Box.new (by simp)).alloc _)
    have bx1 : Box ((w.alloc (.cells #[.int .i64 b, .int .i64 f, .int .i64 r, .int .i64 o] 23)).alloc (.cells #[.bool neg, .slice A na c, .slice B m d] 28)) (w.heap.size + 1) [.bool neg, .slice A na c, .slice B m d] := (Box.new (by simp))
    generalize (w.alloc (.cells #[.int .i64 b, .int .i64 f, .int .i64 r, .int .i64 o] 23)).alloc (.cells #[.bool neg, .slice A na c, .slice B m d] 28) = wA at hB0 bx0 bx1 ⊢
    have HA := Lib.hid (And.intro hB0 (And.intro bx0 bx1))
    clear hB0 bx0 bx1
    have x1 : wA.cell? ⟨w.heap.size + 1, 1, none⟩ = some (.slice A na c) := HA.out.2.2.2.1 1
    have x2 : wA.cell? ⟨w.heap.size + 1, 2, none⟩ = some (.slice B m d) := HA.out.2.2.2.1 2
    go_wp2_with (go_at_call 7; (with_reducible refine (known21 _).mono ?_); rintro e1 w1 ⟨rfl, hb1⟩)
    go_ret
    exact ⟨rfl, below_then HA.out.1 hb1⟩
end Go.Proofs.Ytmdfgidejdiiiaa
