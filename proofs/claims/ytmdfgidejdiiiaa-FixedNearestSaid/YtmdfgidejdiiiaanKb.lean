/- Words: fixed.Nearest. Printed by gen_kb.py. -/
import Derived.Test.YtmdfgidejdiiiaanKa
set_option linter.unusedVariables false
set_option linter.unusedSimpArgs false
namespace Go.Proofs.Ytmdfgidejdiiiaa
open Go.RowKit
theorem near3_sgn {y : Rat} {g fg : Bool} {m : Int} (h0 : 0 ≤ m) (h : sgn g m = (absR y).floor) (hs : decide (sgnR y < 0) = fg) : nearI 3 y = sgn fg m := by
  by_cases hy : y < 0
  · have ha : absR y = -y := by unfold absR; rw [if_pos hy]
    have hf : fg = true := by rw [← hs]; unfold sgnR; rw [if_pos hy]; rfl
    have hp : 0 ≤ (-y).floor := Rat.le_floor_iff.2 (by
      have := Rat.neg_le_neg (Rat.le_of_lt hy)
      simpa using this)
    have hn : nearI 3 y = -(-y).floor := by unfold nearI; rw [if_neg (by decide), if_pos ⟨rfl, hy⟩]
    rw [hn, hf]
    rw [ha] at h
    cases g <;> simp [sgn] at h ⊢ <;> omega
  · have ha : absR y = y := by unfold absR; rw [if_neg hy]
    have hf : fg = false := by rw [← hs]; unfold sgnR; rw [if_neg hy]; split <;> rfl
    have hp : 0 ≤ y.floor := Rat.le_floor_iff.2 (by simpa using Rat.not_lt.1 hy)
    have hn : nearI 3 y = y.floor := by unfold nearI; rw [if_neg (by decide), if_neg (by rintro ⟨-, h⟩; exact hy h)]
    rw [hn, hf]
    rw [ha] at h
    cases g <;> simp [sgn] at h ⊢ <;> omega
theorem nrm_two {l : List Int} (hd : Dig l) (hn : Nrm l) (h : 1 < l.length) : 4294967296 ≤ nv l := by
  rcases Int.lt_or_le (nv l) 4294967296 with h1 | h1
  · have := nrm_len (k := 1) hd hn (by rw [bp_one]; exact h1)
    omega
  · exact h1
set_option maxRecDepth 100000 in
set_option maxHeartbeats 4000000 in
theorem fx_Nearest (b f r o : Int) (v : Value) (x : Rat) (K : Nat) (w : World) (hx : RatA w v x K) (hK : 1 ≤ K) (h9 : K ≤ 300000) : Calls Try.prog 8 #[wordV b f r o, v] w (NearPost b f r o x w) := by
  obtain ⟨neg, A, na, c, l, B, m, d, rr, rfl, hxx⟩ := hx
  have hx : RatA w (.agg #[.bool neg, .slice A na c, .slice B m d]) x K := ⟨neg, A, na, c, l, B, m, d, rr, rfl, hxx⟩
  have CV : Hid (∀ w1, Calls Try.prog 41 #[wordV b f r o] w1 fun e w' => e = .returned (.bool (okW b f r o)) ∧ Below w1.heap.size w1 w') := Lib.hid fun w1 => fx_Valid b f r o w1
  obtain ⟨dI, hI1, hI2⟩ := row_Int
  have HI := Lib.hid (And.intro hI1 hI2)
  clear hI1 hI2
  obtain ⟨dsR, hR1, hR2⟩ := row_Rat
  have HRR := Lib.hid (And.intro hR1 hR2)
  clear hR1 hR2
  rcases Bool.eq_false_or_eq_true (okW b f r o) with h | h
  · have hf := okW_iff.1 h
    rw [h] at CV
    obtain ⟨n, rfl⟩ : ∃ n : Nat, f = n := ⟨f.toNat, by omega⟩
    have hn : n ≤ 30 := by omega
    obtain ⟨P, hP⟩ : ∃ P : Int, (2 : Int) ^ n = P := ⟨_, rfl⟩
    obtain ⟨y, hy⟩ : ∃ y : Rat, x * (P : Rat) = y := ⟨_, rfl⟩
    have hpi : 0 < P ∧ P ≤ 2147483648 := hP ▸ ⟨pow2_pos n, pow_up (by omega)⟩
    have HPW : Hid (wrap64 (2 ^ n) = P) := Lib.hid (by rw [hP]; unfold wrap64; omega)
    have CP : Hid (∀ w1, Calls Try.prog 43 #[.int .i64 P] w1 (RetQ w1 (P : Rat) 2)) := Lib.hid fun w1 => rt_OfQ P w1 (by unfold I64; omega)
    have CM : Hid (∀ u w1 (b1 : Nat), Below w.heap.size w w1 → RatQ b1 w1 u (P : Rat) 2 → Calls Try.prog 42 #[.agg #[.bool neg, .slice A na c, .slice B m d], u] w1 (RetQ w1 y (K + 2))) := Lib.hid fun u w1 b1 hb hu => hy ▸ rt_Mul _ u x _ K 2 w1 (hx.grow hb) hu.arg hK (by decide) (by omega) (by decide)
    have HYV : Hid (x * ((2 ^ (n : Int).toNat : Int) : Rat) = y) := Lib.hid (by rw [Int.toNat_natCast, hP]; exact hy)
    have HOK : Hid (okW b n r o = true ∧ 1 ≤ r ∧ r ≤ 3) := Lib.hid ⟨h, by omega, by omega⟩
    have HKK : Hid (1 ≤ K ∧ K ≤ 300000) := Lib.hid ⟨hK, h9⟩
    have x9 : (0 : Int) ≤ (n : Int) := by omega
    clear hf h hx hxx hP hy hpi
    go_enter Try.func8, Try.ntmps8
    go_upto_region 1 with fail
    have hB0 : Below w.heap.size w ((w.alloc (.cells #[.int .i64 b, .int .i64 (n : Int), .int .i64 r, .int .i64 o] 23)).alloc (.cells #[.bool neg, .slice A na c, .slice B m d] 28)) := (((Below.refl _ _).alloc (Nat.le_refl _) _).alloc (by simp; try omega) _)
    have bx0 : Box ((w.alloc (.cells #[.int .i64 b, .int .i64 (n : Int), .int .i64 r, .int .i64 o] 23)).alloc (.cells #[.bool neg, .slice A na c, .slice B m d] 28)) (w.heap.size) [.int .i64 b, .int .i64 (n : Int), .int .i64 r, .int .i64 o] := ((Box.new (by simp)).alloc _)
    have bx1 : Box ((w.alloc (.cells #[.int .i64 b, .int .i64 (n : Int), .int .i64 r, .int .i64 o] 23)).alloc (.cells #[.bool neg, .slice A na c, .slice B m d] 28)) (w.heap.size + 1) [.bool neg, .slice A na c, .slice B m d] := (Box.new (by simp))
    generalize (w.alloc (.cells #[.int .i64 b, .int .i64 (n : Int), .int .i64 r, .int .i64 o] 23)).alloc (.cells #[.bool neg, .slice A na c, .slice B m d] 28) = wA at hB0 bx0 bx1 ⊢
    have HA := Lib.hid (And.intro hB0 (And.intro bx0 bx1))
    clear hB0 bx0 bx1
    have x0 : wA.cell? ⟨w.heap.size, 0, none⟩ = some (.int .i64 b) := (HA.out.2.1).2.1 0
    have x1 : wA.cell? ⟨w.heap.size, 1, none⟩ = some (.int .i64 (n : Int)) := (HA.out.2.1).2.1 1
    have x2 : wA.cell? ⟨w.heap.size, 2, none⟩ = some (.int .i64 r) := (HA.out.2.1).2.1 2
    have x3 : wA.cell? ⟨w.heap.size, 3, none⟩ = some (.int .i64 o) := (HA.out.2.1).2.1 3
    go_upto_region 3 with (go_at_call 41; (with_reducible refine (CV.out _).mono ?_); rintro e1 w1 ⟨rfl, hb1⟩; have HB1 := Lib.hid hb1; clear hb1)
    clear x0 x1 x2 x3
    refine wp_region_grow7 (fun i => Nat.blt i 7) (fun _ => false) (fun w9 => Below w1.heap.size w1 w9) (gT [.v (.agg #[.bool neg, .slice A na c, .slice B m d]), .v (.pointer (some ⟨w.heap.size, 1, none⟩)), .v (.int .i64 (n : Int)), .v (.int .i64 P), .rq (P : Rat) 2, .rq y (K + 2), .box 28 [.bool false, .slice none 0 0, .slice none 0 0]]) (fun a b => Below a.heap.size a b) (dT w1.heap.size [.v (.agg #[.bool neg, .slice A na c, .slice B m d]), .v (.pointer (some ⟨w.heap.size, 1, none⟩)), .v (.int .i64 (n : Int)), .v (.int .i64 P), .rq (P : Rat) 2, .rq y (K + 2), .box 28 [.bool false, .slice none 0 0, .slice none 0 0]]) (by kernel_rfl) (by kernel_rfl) (Below.refl _ _).drew (fun j x a b h1 h2 => ⟨below_then h1 h2.1, fun i _ v => dT_keep h2.1 i v, Below.refl _ _, fun w0 h => below_then h h2.1⟩) (fun j v w h => by cases h) ?_ (fun j o _ _ h => by cases h) ?_
    · refine ⟨?_, ?_, ?_, ?_, ?_, ?_, ?_, trivial⟩
      all_goals
        intro vs w9 hp hF
        have HP := Lib.hid hp
        have y1 : w9.cell? ⟨w.heap.size, 1, none⟩ = some (.int .i64 (n : Int)) := ((HA.out.2.1.keep HB1.out).keep hp).2.1 1
        clear hp
        simp [depsB, Region.binds, dT] at hF
        simp [stL, depsB, Region.binds, Act.put, hF]
      · (obtain ⟨dI, hI1, hI2⟩ := row_Rat; refine wp_ld rfl 28 _ rfl (w.heap.size + 1) 0 rfl ((HA.out.2.2.keep HB1.out).keep HP.out) [.bool neg, .slice A na c, .slice B m d] (fun j v h => by rcases j with _ | _ | _ | _ | j <;> simp at h ⊢ <;> exact h) dI hI1 hI2 size_Rat ?_; go_wp2_with fail; exact ⟨rfl, Below.refl _ _, nbx rfl⟩)
      · (go_wp2_with fail; exact ⟨rfl, Below.refl _ _, nbx rfl⟩)
      · (go_wp2_with fail; exact ⟨rfl, Below.refl _ _, nbx rfl⟩)
      · go_wp2_with fail
        exact ⟨show Value.int .i64 (wrap64 (2 ^ n)) = Value.int .i64 P by rw [HPW.out], Below.refl _ _, nbx rfl⟩
      · go_wp2_with (go_at_call 43; (with_reducible refine (CP.out _).mono ?_); rintro e1 w1' ⟨v1, rfl, ho, hb1⟩)
        exact ⟨ho.base HP.out.size, hb1, nbx rfl⟩
      · obtain ⟨e0, hq⟩ := hF
        have H3 := Lib.hid hq
        obtain ⟨g3, A3, n3, c3, B3, m3, d3, e3⟩ := hq.form
        rw [e3] at H3
        clear hq
        simp only [e0, e3]
        go_wp2_with (go_at_call 42; (with_reducible refine (CM.out _ _ _ (below_then (below_then HA.out.1 HB1.out) HP.out) H3.out).mono ?_); rintro e1' w1' ⟨v1, rfl, ho, hb1⟩)
        exact ⟨ho.base HP.out.size, hb1, nbx rfl⟩
      · (go_wp2_with fail; exact ⟨BoxO.new HP.out.size, (Below.refl _ _).alloc (Nat.le_refl _) _, fun _ => rfl⟩)
    intro vs w9 hp hF hpr
    have hq : RatQ w1.heap.size w9 (vs 5) y (K + 2) := hF 5 (by decide) rfl
    obtain ⟨g7, A7, n7, c7, B7, m7, d7, e7⟩ := hq.form
    rw [e7] at hq
    obtain ⟨G, e9, k9, b9, t9⟩ : BoxO w1.heap.size w9 (vs 6) 28 [.bool false, .slice none 0 0, .slice none 0 0] := hF 6 (by decide) rfl
    clear hpr hF
    show wpList Try.prog _ _ [_] _ _
    simp [stL, Act.put, e7, e9]
    refine wp_st rfl 28 _ _ rfl G 0 [_, _, _] rfl rfl size_Rat rfl b9 (Nat.le_refl _) rfl ?_
    intro W1 c1 q1
    have HQ := Lib.hid (hq.keptT q1 t9 (by decide))
    have HC : Hid (Box W1 G [.bool g7, .slice A7 n7 c7, .slice B7 m7 d7]) := Lib.hid c1
    have hb3 : Below w1.heap.size w1 W1 := put_facts hp k9 q1
    have HB3 : Hid (Below w.heap.size w W1) := Lib.hid (below_then (below_then HA.out.1 HB1.out) hb3)
    have HW := Lib.hid ((HA.out.2.1.keep HB1.out).keep hb3)
    have HG : Hid (w1.heap.size ≤ G ∧ w.heap.size < w1.heap.size) := Lib.hid ⟨k9, Nat.lt_of_lt_of_le HA.out.2.1.1 HB1.out.size⟩
    clear hq e7 e9 k9 b9 t9 c1 q1 hp hb3 CV CP CM HA HB1
    go_upto_region 5 with fail
    have hb4 : Below W1.heap.size W1 (W1.alloc (.cells #[.bool false, .slice none 0 0] 26)) := (Below.refl _ _).alloc (Nat.le_refl _) _
    have bx4 : Box (W1.alloc (.cells #[.bool false, .slice none 0 0] 26)) W1.heap.size [.bool false, .slice none 0 0] := Box.new (by simp)
    have ty4 : TyB (W1.alloc (.cells #[.bool false, .slice none 0 0] 26)) W1.heap.size 26 := TyB.new
    generalize W1.alloc (.cells #[.bool false, .slice none 0 0] 26) = W2 at hb4 bx4 ty4 ⊢
    have HB2 := Lib.hid (below_then HB3.out hb4)
    have HW2 := Lib.hid (HW.out.keep hb4)
    have HC2 := Lib.hid (HC.out.keep hb4)
    have HQ2 := Lib.hid (HQ.out.grow hb4)
    have hgg := HG.out
    have hgc := HC.out.1
    have hhw := bx4.1
    obtain ⟨H, hH⟩ : ∃ h, W1.heap.size = h := ⟨_, rfl⟩
    rw [hH] at bx4 ty4 hgc hhw ⊢
    have HH2 := Lib.hid bx4
    have HTY := Lib.hid ty4
    clear ty4
    have HS2 : Hid (w.heap.size < G ∧ G < H ∧ H < W2.heap.size) := Lib.hid ⟨by omega, hgc, hhw⟩
    clear hb4 bx4 hgg hgc hhw hH HB3 HW HC HQ HG
    rcases (show r = 1 ∨ r = 2 ∨ r = 3 by have := HOK.out; omega) with rfl | rfl | rfl
    · have y2 : W2.cell? ⟨w.heap.size, 2, none⟩ = some (.int .i64 1) := HW2.out.2.1 2
      have CFL : Hid (Calls Try.prog 44 #[.agg #[.bool g7, .slice A7 n7 c7, .slice B7 m7 d7]] W2 (RetI W2 y.floor (K + 3))) := Lib.hid (rt_Floor _ y (K + 2) W2 HQ2.out.arg (by omega) (by have := HKK.out; omega))
      go_upto_region 12 with (first
        | ((with_reducible show wpList _ _ _ (Oper.mk _ (.load 28 _) _ _ _ _ :: _) _ _); refine wp_ld rfl 28 _ rfl (G) 0 rfl (HC2.out) [.bool g7, .slice A7 n7 c7, .slice B7 m7 d7] (fun j v h => by rcases j with _ | _ | _ | j <;> simp at h ⊢ <;> exact h) dsR HRR.out.1 HRR.out.2 size_Rat ?_)
        | (go_at_call 44; (with_reducible refine (CFL.out).mono ?_); rintro e5 w5 ⟨v5, rfl, hi, hb5⟩; have HO5 := Lib.hid hi; obtain ⟨ng5, A5, c5, l5, rfl, -⟩ := hi; have HB5 := Lib.hid hb5; clear hb5)
        | ((with_reducible show wpList _ _ _ (Oper.mk none (.store 26 (.tmp 7) _) _ _ _ _ :: _) _ _); refine wp_st rfl 26 _ _ rfl (H) 0 [_, _] rfl rfl size_Int rfl (HH2.out.keep HB5.out) (Nat.le_refl _) rfl ?_; intro WW cH qH))
      obtain ⟨ls, hs1, hs2, hs3, -, hs4⟩ := HO5.out.low (l := l5)
      have hlt := HS2.out
      have HBT : Hid (Below w.heap.size w WW) := Lib.hid (put_facts (below_then HB2.out HB5.out) (by omega) qH)
      have HWT := Lib.hid ((HW2.out.keep HB5.out).grown qH (fun e => by injection e with e; omega))
      have HLT : Hid (OwG W2.heap.size WW (.slice A5 l5.length c5) ls ∧ Nrm ls ∧ ls.length = l5.length ∧ sgn ng5 (nv ls) = y.floor) := Lib.hid ⟨hs1.away qH (by omega), hs2, hs3, hs4⟩
      have HHT : Hid (Box WW H [.bool ng5, .slice A5 l5.length c5]) := Lib.hid cH
      have HNT : Hid (nearI 1 y = y.floor) := Lib.hid (by unfold nearI; rw [if_neg (by decide), if_neg (by simp)])
      clear hs1 hs2 hs3 hs4 hlt qH cH y2 CFL HO5 HB5
      generalize l5.length = ns at HLT HHT ⊢
      generalize y.floor = t at HLT HNT
      have z1 : WW.cell? ⟨H, 1, none⟩ = some (.slice A5 ns c5) := HHT.out.2.1 1
      have z0 : WW.cell? ⟨H, 0, none⟩ = some (.bool ng5) := HHT.out.2.1 0
      by_cases hns : 1 < ns
      · have hn1 : (1 : Int) < (ns : Int) := by omega
        have HN0 : Hid (nearF b (n : Int) 1 o x = (0, false)) := Lib.hid (by
          obtain ⟨o1, n1, e1, t1⟩ := HLT.out
          have h2 := nrm_two o1.dig n1 (by omega)
          unfold nearF
          rw [HYV.out, HNT.out, if_neg]
          rw [fits_big]
          · decide
          · cases ng5 <;> simp [sgn] at t1 <;> omega)
        clear hns
        go_wp2_with fail
        refine bodyPost_ret (results_tmp2 rfl _ _ _) rfl ?_
        exact ⟨by rw [HN0.out]; rfl, HBT.out⟩
      · rcases (show ns = 0 ∨ ns = 1 by omega) with h0 | h0
        · subst h0
          have HNR : Hid (nearI 1 y = 0) := Lib.hid (by
            obtain ⟨o1, n1, e1, t1⟩ := HLT.out
            rw [HNT.out, ← t1, List.length_eq_zero_iff.1 e1]
            cases ng5 <;> rfl)
          clear hns
          cases ng5 with
          | false =>
            have x0 : WW.cell? ⟨w.heap.size, 0, none⟩ = some (.int .i64 b) := (HWT.out).2.1 0
            have x1 : WW.cell? ⟨w.heap.size, 1, none⟩ = some (.int .i64 (n : Int)) := (HWT.out).2.1 1
            have x2 : WW.cell? ⟨w.heap.size, 2, none⟩ = some (.int .i64 1) := (HWT.out).2.1 2
            have x3 : WW.cell? ⟨w.heap.size, 3, none⟩ = some (.int .i64 o) := (HWT.out).2.1 3
            obtain ⟨fv, hfv⟩ : ∃ c, fitsW b (n : Int) 1 o (0) = c := ⟨_, rfl⟩
            have CFT : Hid (∀ w1, Calls Try.prog 49 #[wordV b (n : Int) 1 o, .int .i64 (0)] w1 fun e w' => e = .returned (.bool fv) ∧ Below w1.heap.size w1 w') := Lib.hid fun w1 => hfv ▸ fx_Fits b n 1 o (0) w1
            have HFV := Lib.hid hfv
            clear hfv
            cases fv with
            | false =>
              go_wp2_with (go_at_call 49; (with_reducible refine (CFT.out _).mono ?_); rintro e8 w8 ⟨rfl, hb8⟩; have HB8 := Lib.hid hb8; clear hb8)
              refine bodyPost_ret (results_tmp2 rfl _ _ _) rfl ?_
              refine ⟨?_, below_then (HBT.out) HB8.out⟩
              have hnr := HNR.out
              unfold nearF
              rw [HYV.out, hnr, if_neg (by rw [HFV.out]; decide)]
              rfl
            | true =>
              go_wp2_with (go_at_call 49; (with_reducible refine (CFT.out _).mono ?_); rintro e8 w8 ⟨rfl, hb8⟩; have HB8 := Lib.hid hb8; clear hb8)
              refine bodyPost_ret (results_tmp2 rfl _ _ _) rfl ?_
              refine ⟨?_, below_then (HBT.out) HB8.out⟩
              have hnr := HNR.out
              unfold nearF
              rw [HYV.out, hnr, if_pos HFV.out]
              rfl
          | true =>
            have x0 : WW.cell? ⟨w.heap.size, 0, none⟩ = some (.int .i64 b) := (HWT.out).2.1 0
            have x1 : WW.cell? ⟨w.heap.size, 1, none⟩ = some (.int .i64 (n : Int)) := (HWT.out).2.1 1
            have x2 : WW.cell? ⟨w.heap.size, 2, none⟩ = some (.int .i64 1) := (HWT.out).2.1 2
            have x3 : WW.cell? ⟨w.heap.size, 3, none⟩ = some (.int .i64 o) := (HWT.out).2.1 3
            obtain ⟨fv, hfv⟩ : ∃ c, fitsW b (n : Int) 1 o (0) = c := ⟨_, rfl⟩
            have CFT : Hid (∀ w1, Calls Try.prog 49 #[wordV b (n : Int) 1 o, .int .i64 (0)] w1 fun e w' => e = .returned (.bool fv) ∧ Below w1.heap.size w1 w') := Lib.hid fun w1 => hfv ▸ fx_Fits b n 1 o (0) w1
            have HFV := Lib.hid hfv
            clear hfv
            cases fv with
            | false =>
              go_wp2_with (go_at_call 49; (with_reducible refine (CFT.out _).mono ?_); rintro e8 w8 ⟨rfl, hb8⟩; have HB8 := Lib.hid hb8; clear hb8)
              refine bodyPost_ret (results_tmp2 rfl _ _ _) rfl ?_
              refine ⟨?_, below_then (HBT.out) HB8.out⟩
              have hnr := HNR.out
              unfold nearF
              rw [HYV.out, hnr, if_neg (by rw [HFV.out]; decide)]
              rfl
            | true =>
              go_wp2_with (go_at_call 49; (with_reducible refine (CFT.out _).mono ?_); rintro e8 w8 ⟨rfl, hb8⟩; have HB8 := Lib.hid hb8; clear hb8)
              refine bodyPost_ret (results_tmp2 rfl _ _ _) rfl ?_
              refine ⟨?_, below_then (HBT.out) HB8.out⟩
              have hnr := HNR.out
              unfold nearF
              rw [HYV.out, hnr, if_pos HFV.out]
              rfl
        · subst h0
          obtain ⟨o1, n1, e1, t1⟩ := HLT.out
          obtain ⟨ad, dg, rfl, _, hdx, hcx, i1, i2⟩ := o1.digA.at_ (k := 0) (by omega)
          have hcx : WW.cell? ad = some (.int .u32 dg) := hcx
          have hl1 : ls = [dg] := by
            match ls, e1, hdx with
            | [a], _, h => simp at h; rw [h]
          rw [hl1, nv_one] at t1
          have HNR1 : Hid (nearI 1 y = sgn ng5 dg) := Lib.hid (HNT.out.trans t1.symm)
          clear o1 n1 e1 t1 hl1 hdx hns
          cases ng5 with
          | false =>
            have HNR : Hid (nearI 1 y = dg) := HNR1
            have x0 : WW.cell? ⟨w.heap.size, 0, none⟩ = some (.int .i64 b) := (HWT.out).2.1 0
            have x1 : WW.cell? ⟨w.heap.size, 1, none⟩ = some (.int .i64 (n : Int)) := (HWT.out).2.1 1
            have x2 : WW.cell? ⟨w.heap.size, 2, none⟩ = some (.int .i64 1) := (HWT.out).2.1 2
            have x3 : WW.cell? ⟨w.heap.size, 3, none⟩ = some (.int .i64 o) := (HWT.out).2.1 3
            obtain ⟨fv, hfv⟩ : ∃ c, fitsW b (n : Int) 1 o (dg) = c := ⟨_, rfl⟩
            have CFT : Hid (∀ w1, Calls Try.prog 49 #[wordV b (n : Int) 1 o, .int .i64 (dg)] w1 fun e w' => e = .returned (.bool fv) ∧ Below w1.heap.size w1 w') := Lib.hid fun w1 => hfv ▸ fx_Fits b n 1 o (dg) w1
            have HFV := Lib.hid hfv
            clear hfv
            cases fv with
            | false =>
              go_wp2_with (go_at_call 49; (with_reducible refine (CFT.out _).mono ?_); rintro e8 w8 ⟨rfl, hb8⟩; have HB8 := Lib.hid hb8; clear hb8)
              refine bodyPost_ret (results_tmp2 rfl _ _ _) rfl ?_
              refine ⟨?_, below_then (HBT.out) HB8.out⟩
              have hnr := HNR.out
              unfold nearF
              rw [HYV.out, hnr, if_neg (by rw [HFV.out]; decide)]
              rfl
            | true =>
              go_wp2_with (go_at_call 49; (with_reducible refine (CFT.out _).mono ?_); rintro e8 w8 ⟨rfl, hb8⟩; have HB8 := Lib.hid hb8; clear hb8)
              refine bodyPost_ret (results_tmp2 rfl _ _ _) rfl ?_
              refine ⟨?_, below_then (HBT.out) HB8.out⟩
              have hnr := HNR.out
              unfold nearF
              rw [HYV.out, hnr, if_pos HFV.out]
              rfl
          | true =>
            have HNR : Hid (nearI 1 y = -dg) := HNR1
            have x0 : WW.cell? ⟨w.heap.size, 0, none⟩ = some (.int .i64 b) := (HWT.out).2.1 0
            have x1 : WW.cell? ⟨w.heap.size, 1, none⟩ = some (.int .i64 (n : Int)) := (HWT.out).2.1 1
            have x2 : WW.cell? ⟨w.heap.size, 2, none⟩ = some (.int .i64 1) := (HWT.out).2.1 2
            have x3 : WW.cell? ⟨w.heap.size, 3, none⟩ = some (.int .i64 o) := (HWT.out).2.1 3
            obtain ⟨fv, hfv⟩ : ∃ c, fitsW b (n : Int) 1 o (-dg) = c := ⟨_, rfl⟩
            have CFT : Hid (∀ w1, Calls Try.prog 49 #[wordV b (n : Int) 1 o, .int .i64 (-dg)] w1 fun e w' => e = .returned (.bool fv) ∧ Below w1.heap.size w1 w') := Lib.hid fun w1 => hfv ▸ fx_Fits b n 1 o (-dg) w1
            have HFV := Lib.hid hfv
            clear hfv
            cases fv with
            | false =>
              go_wp2_with (go_at_call 49; (with_reducible refine (CFT.out _).mono ?_); rintro e8 w8 ⟨rfl, hb8⟩; have HB8 := Lib.hid hb8; clear hb8)
              refine bodyPost_ret (results_tmp2 rfl _ _ _) rfl ?_
              refine ⟨?_, below_then (HBT.out) HB8.out⟩
              have hnr := HNR.out
              unfold nearF
              rw [HYV.out, hnr, if_neg (by rw [HFV.out]; decide)]
              rfl
            | true =>
              go_wp2_with (go_at_call 49; (with_reducible refine (CFT.out _).mono ?_); rintro e8 w8 ⟨rfl, hb8⟩; have HB8 := Lib.hid hb8; clear hb8)
              refine bodyPost_ret (results_tmp2 rfl _ _ _) rfl ?_
              refine ⟨?_, below_then (HBT.out) HB8.out⟩
              have hnr := HNR.out
              unfold nearF
              rw [HYV.out, hnr, if_pos HFV.out]
              rfl
    · have y2 : W2.cell? ⟨w.heap.size, 2, none⟩ = some (.int .i64 2) := HW2.out.2.1 2
      obtain ⟨hf, hhf⟩ : ∃ q : Rat, ((1 : Int) : Rat) / ((2 : Int) : Rat) = q := ⟨_, rfl⟩
      obtain ⟨z2, hz2⟩ : ∃ q : Rat, y + hf = q := ⟨_, rfl⟩
      have HY2 : Hid (y + ((1 : Int) : Rat) / ((2 : Int) : Rat) = z2) := Lib.hid (by rw [hhf]; exact hz2)
      have CFR : Hid (∀ w1, Calls Try.prog 46 #[.int .i64 1, .int .i64 2] w1 (RetQ w1 hf 2)) := Lib.hid fun w1 => hhf ▸ rt_Frac 1 2 w1 (by unfold I64; omega) (by unfold I64; omega)
      have CAD : Hid (∀ u w1 b, Below W2.heap.size W2 w1 → RatQ b w1 u hf 2 → Calls Try.prog 45 #[.agg #[.bool g7, .slice A7 n7 c7, .slice B7 m7 d7], u] w1 (RetQ w1 z2 (K + 5))) := Lib.hid fun u w1 b hb hu => by
        have hk := HKK.out
        have h := rt_Add _ u y hf (K + 2) 2 w1 (HQ2.out.grow hb).arg hu.arg (by omega) (by decide) (by omega) (by decide)
        rw [hz2] at h
        exact h
      have CFL : Hid (∀ u w1 b, RatQ b w1 u z2 (K + 5) → Calls Try.prog 44 #[u] w1 (RetI w1 z2.floor (K + 6))) := Lib.hid fun u w1 b hu => rt_Floor u z2 (K + 5) w1 hu.arg (by omega) (by have := HKK.out; omega)
      clear hhf hz2
      go_upto_region 8 with fail
      clear y2
      refine wp_region_grow7 (fun i => Nat.blt i 4) (fun _ => false) (fun w9 => Below W2.heap.size W2 w9) (gT [.v (.agg #[.bool g7, .slice A7 n7 c7, .slice B7 m7 d7]), .rq hf 2, .rq z2 (K + 5), .int z2.floor (K + 6)]) (fun a b => Below a.heap.size a b) (dT W2.heap.size [.v (.agg #[.bool g7, .slice A7 n7 c7, .slice B7 m7 d7]), .rq hf 2, .rq z2 (K + 5), .int z2.floor (K + 6)]) (by kernel_rfl) (by kernel_rfl) (Below.refl _ _).drew (fun j x a b h1 h2 => ⟨below_then h1 h2.1, fun i _ v => dT_keep h2.1 i v, Below.refl _ _, fun w0 h => below_then h h2.1⟩) (fun j v w h => by cases h) ?_ (fun j o _ _ h => by cases h) ?_
      · refine ⟨?_, ?_, ?_, ?_, trivial⟩
        all_goals
          intro vs w9 hp hF
          have HP := Lib.hid hp
          clear hp
          simp [depsB, Region.binds, dT] at hF
          simp [stL, depsB, Region.binds, Act.put, hF]
        · (obtain ⟨dI, hI1, hI2⟩ := row_Rat; refine wp_ld rfl 28 _ rfl (G) 0 rfl (HC2.out.keep HP.out) [.bool g7, .slice A7 n7 c7, .slice B7 m7 d7] (fun j v h => by rcases j with _ | _ | _ | _ | j <;> simp at h ⊢ <;> exact h) dI hI1 hI2 size_Rat ?_; go_wp2_with fail; exact ⟨rfl, Below.refl _ _, nbx rfl⟩)
        · go_wp2_with (go_at_call 46; (with_reducible refine (CFR.out _).mono ?_); rintro e1 w1' ⟨v1, rfl, ho, hb1⟩)
          exact ⟨ho.base HP.out.size, hb1, nbx rfl⟩
        · obtain ⟨e0, hq⟩ := hF
          have HQ1 := Lib.hid hq
          obtain ⟨g1, A1, n1, c1, B1, m1, d1, e1⟩ := hq.form
          rw [e1] at HQ1
          simp only [e0, e1]
          go_wp2_with (go_at_call 45; (with_reducible refine (CAD.out _ _ _ HP.out HQ1.out).mono ?_); rintro e1' w1' ⟨v1, rfl, ho, hb1⟩)
          exact ⟨ho.base HP.out.size, hb1, nbx rfl⟩
        · have HQ1 := Lib.hid hF
          obtain ⟨g1, A1, n1, c1, B1, m1, d1, e1⟩ := hF.form
          rw [e1] at HQ1
          simp only [e1]
          go_wp2_with (go_at_call 44; (with_reducible refine (CFL.out _ _ _ HQ1.out).mono ?_); rintro e1' w1' ⟨v1, rfl, ho, hb1⟩)
          exact ⟨ho.base HP.out.size, hb1, nbx rfl⟩
      intro vs w9 hp hF hpr
      have hi : IntO W2.heap.size w9 (vs 3) z2.floor (K + 6) := hF 3 (by decide) rfl
      have HO5 := Lib.hid hi
      obtain ⟨ng5, A5, c5, l5, e5, -⟩ := hi
      rw [e5] at HO5
      have HB5 := Lib.hid hp
      clear hF hpr hp
      show wpList Try.prog _ _ [_] _ _
      simp [stL, Act.put, e5]
      refine wp_st rfl 26 _ _ rfl H 0 [_, _] rfl rfl size_Int rfl (HH2.out.keep HB5.out) (Nat.le_refl _) rfl ?_
      intro WW cH qH
      go_upto_region 12 with fail
      obtain ⟨ls, hs1, hs2, hs3, -, hs4⟩ := HO5.out.low (l := l5)
      have hlt := HS2.out
      have HBT : Hid (Below w.heap.size w WW) := Lib.hid (put_facts (below_then HB2.out HB5.out) (by omega) qH)
      have HWT := Lib.hid ((HW2.out.keep HB5.out).grown qH (fun e => by injection e with e; omega))
      have HLT : Hid (OwG W2.heap.size WW (.slice A5 l5.length c5) ls ∧ Nrm ls ∧ ls.length = l5.length ∧ sgn ng5 (nv ls) = z2.floor) := Lib.hid ⟨hs1.away qH (by omega), hs2, hs3, hs4⟩
      have HHT : Hid (Box WW H [.bool ng5, .slice A5 l5.length c5]) := Lib.hid cH
      have HNT : Hid (nearI 2 y = z2.floor) := Lib.hid (by unfold nearI; rw [if_pos rfl, HY2.out])
      clear hs1 hs2 hs3 hs4 hlt qH cH CFL CFR CAD HO5 HB5
      generalize l5.length = ns at HLT HHT ⊢
      generalize z2.floor = t at HLT HNT
      have z1 : WW.cell? ⟨H, 1, none⟩ = some (.slice A5 ns c5) := HHT.out.2.1 1
      have z0 : WW.cell? ⟨H, 0, none⟩ = some (.bool ng5) := HHT.out.2.1 0
      by_cases hns : 1 < ns
      · have hn1 : (1 : Int) < (ns : Int) := by omega
        have HN0 : Hid (nearF b (n : Int) 2 o x = (0, false)) := Lib.hid (by
          obtain ⟨o1, n1, e1, t1⟩ := HLT.out
          have h2 := nrm_two o1.dig n1 (by omega)
          unfold nearF
          rw [HYV.out, HNT.out, if_neg]
          rw [fits_big]
          · decide
          · cases ng5 <;> simp [sgn] at t1 <;> omega)
        clear hns
        go_wp2_with fail
        refine bodyPost_ret (results_tmp2 rfl _ _ _) rfl ?_
        exact ⟨by rw [HN0.out]; rfl, HBT.out⟩
      · rcases (show ns = 0 ∨ ns = 1 by omega) with h0 | h0
        · subst h0
          have HNR : Hid (nearI 2 y = 0) := Lib.hid (by
            obtain ⟨o1, n1, e1, t1⟩ := HLT.out
            rw [HNT.out, ← t1, List.length_eq_zero_iff.1 e1]
            cases ng5 <;> rfl)
          clear hns
          cases ng5 with
          | false =>
            have x0 : WW.cell? ⟨w.heap.size, 0, none⟩ = some (.int .i64 b) := (HWT.out).2.1 0
            have x1 : WW.cell? ⟨w.heap.size, 1, none⟩ = some (.int .i64 (n : Int)) := (HWT.out).2.1 1
            have x2 : WW.cell? ⟨w.heap.size, 2, none⟩ = some (.int .i64 2) := (HWT.out).2.1 2
            have x3 : WW.cell? ⟨w.heap.size, 3, none⟩ = some (.int .i64 o) := (HWT.out).2.1 3
            obtain ⟨fv, hfv⟩ : ∃ c, fitsW b (n : Int) 2 o (0) = c := ⟨_, rfl⟩
            have CFT : Hid (∀ w1, Calls Try.prog 49 #[wordV b (n : Int) 2 o, .int .i64 (0)] w1 fun e w' => e = .returned (.bool fv) ∧ Below w1.heap.size w1 w') := Lib.hid fun w1 => hfv ▸ fx_Fits b n 2 o (0) w1
            have HFV := Lib.hid hfv
            clear hfv
            cases fv with
            | false =>
              go_wp2_with (go_at_call 49; (with_reducible refine (CFT.out _).mono ?_); rintro e8 w8 ⟨rfl, hb8⟩; have HB8 := Lib.hid hb8; clear hb8)
              refine bodyPost_ret (results_tmp2 rfl _ _ _) rfl ?_
              refine ⟨?_, below_then (HBT.out) HB8.out⟩
              have hnr := HNR.out
              unfold nearF
              rw [HYV.out, hnr, if_neg (by rw [HFV.out]; decide)]
              rfl
            | true =>
              go_wp2_with (go_at_call 49; (with_reducible refine (CFT.out _).mono ?_); rintro e8 w8 ⟨rfl, hb8⟩; have HB8 := Lib.hid hb8; clear hb8)
              refine bodyPost_ret (results_tmp2 rfl _ _ _) rfl ?_
              refine ⟨?_, below_then (HBT.out) HB8.out⟩
              have hnr := HNR.out
              unfold nearF
              rw [HYV.out, hnr, if_pos HFV.out]
              rfl
          | true =>
            have x0 : WW.cell? ⟨w.heap.size, 0, none⟩ = some (.int .i64 b) := (HWT.out).2.1 0
            have x1 : WW.cell? ⟨w.heap.size, 1, none⟩ = some (.int .i64 (n : Int)) := (HWT.out).2.1 1
            have x2 : WW.cell? ⟨w.heap.size, 2, none⟩ = some (.int .i64 2) := (HWT.out).2.1 2
            have x3 : WW.cell? ⟨w.heap.size, 3, none⟩ = some (.int .i64 o) := (HWT.out).2.1 3
            obtain ⟨fv, hfv⟩ : ∃ c, fitsW b (n : Int) 2 o (0) = c := ⟨_, rfl⟩
            have CFT : Hid (∀ w1, Calls Try.prog 49 #[wordV b (n : Int) 2 o, .int .i64 (0)] w1 fun e w' => e = .returned (.bool fv) ∧ Below w1.heap.size w1 w') := Lib.hid fun w1 => hfv ▸ fx_Fits b n 2 o (0) w1
            have HFV := Lib.hid hfv
            clear hfv
            cases fv with
            | false =>
              go_wp2_with (go_at_call 49; (with_reducible refine (CFT.out _).mono ?_); rintro e8 w8 ⟨rfl, hb8⟩; have HB8 := Lib.hid hb8; clear hb8)
              refine bodyPost_ret (results_tmp2 rfl _ _ _) rfl ?_
              refine ⟨?_, below_then (HBT.out) HB8.out⟩
              have hnr := HNR.out
              unfold nearF
              rw [HYV.out, hnr, if_neg (by rw [HFV.out]; decide)]
              rfl
            | true =>
              go_wp2_with (go_at_call 49; (with_reducible refine (CFT.out _).mono ?_); rintro e8 w8 ⟨rfl, hb8⟩; have HB8 := Lib.hid hb8; clear hb8)
              refine bodyPost_ret (results_tmp2 rfl _ _ _) rfl ?_
              refine ⟨?_, below_then (HBT.out) HB8.out⟩
              have hnr := HNR.out
              unfold nearF
              rw [HYV.out, hnr, if_pos HFV.out]
              rfl
        · subst h0
          obtain ⟨o1, n1, e1, t1⟩ := HLT.out
          obtain ⟨ad, dg, rfl, _, hdx, hcx, i1, i2⟩ := o1.digA.at_ (k := 0) (by omega)
          have hcx : WW.cell? ad = some (.int .u32 dg) := hcx
          have hl1 : ls = [dg] := by
            match ls, e1, hdx with
            | [a], _, h => simp at h; rw [h]
          rw [hl1, nv_one] at t1
          have HNR1 : Hid (nearI 2 y = sgn ng5 dg) := Lib.hid (HNT.out.trans t1.symm)
          clear o1 n1 e1 t1 hl1 hdx hns
          cases ng5 with
          | false =>
            have HNR : Hid (nearI 2 y = dg) := HNR1
            have x0 : WW.cell? ⟨w.heap.size, 0, none⟩ = some (.int .i64 b) := (HWT.out).2.1 0
            have x1 : WW.cell? ⟨w.heap.size, 1, none⟩ = some (.int .i64 (n : Int)) := (HWT.out).2.1 1
            have x2 : WW.cell? ⟨w.heap.size, 2, none⟩ = some (.int .i64 2) := (HWT.out).2.1 2
            have x3 : WW.cell? ⟨w.heap.size, 3, none⟩ = some (.int .i64 o) := (HWT.out).2.1 3
            obtain ⟨fv, hfv⟩ : ∃ c, fitsW b (n : Int) 2 o (dg) = c := ⟨_, rfl⟩
            have CFT : Hid (∀ w1, Calls Try.prog 49 #[wordV b (n : Int) 2 o, .int .i64 (dg)] w1 fun e w' => e = .returned (.bool fv) ∧ Below w1.heap.size w1 w') := Lib.hid fun w1 => hfv ▸ fx_Fits b n 2 o (dg) w1
            have HFV := Lib.hid hfv
            clear hfv
            cases fv with
            | false =>
              go_wp2_with (go_at_call 49; (with_reducible refine (CFT.out _).mono ?_); rintro e8 w8 ⟨rfl, hb8⟩; have HB8 := Lib.hid hb8; clear hb8)
              refine bodyPost_ret (results_tmp2 rfl _ _ _) rfl ?_
              refine ⟨?_, below_then (HBT.out) HB8.out⟩
              have hnr := HNR.out
              unfold nearF
              rw [HYV.out, hnr, if_neg (by rw [HFV.out]; decide)]
              rfl
            | true =>
              go_wp2_with (go_at_call 49; (with_reducible refine (CFT.out _).mono ?_); rintro e8 w8 ⟨rfl, hb8⟩; have HB8 := Lib.hid hb8; clear hb8)
              refine bodyPost_ret (results_tmp2 rfl _ _ _) rfl ?_
              refine ⟨?_, below_then (HBT.out) HB8.out⟩
              have hnr := HNR.out
              unfold nearF
              rw [HYV.out, hnr, if_pos HFV.out]
              rfl
          | true =>
            have HNR : Hid (nearI 2 y = -dg) := HNR1
            have x0 : WW.cell? ⟨w.heap.size, 0, none⟩ = some (.int .i64 b) := (HWT.out).2.1 0
            have x1 : WW.cell? ⟨w.heap.size, 1, none⟩ = some (.int .i64 (n : Int)) := (HWT.out).2.1 1
            have x2 : WW.cell? ⟨w.heap.size, 2, none⟩ = some (.int .i64 2) := (HWT.out).2.1 2
            have x3 : WW.cell? ⟨w.heap.size, 3, none⟩ = some (.int .i64 o) := (HWT.out).2.1 3
            obtain ⟨fv, hfv⟩ : ∃ c, fitsW b (n : Int) 2 o (-dg) = c := ⟨_, rfl⟩
            have CFT : Hid (∀ w1, Calls Try.prog 49 #[wordV b (n : Int) 2 o, .int .i64 (-dg)] w1 fun e w' => e = .returned (.bool fv) ∧ Below w1.heap.size w1 w') := Lib.hid fun w1 => hfv ▸ fx_Fits b n 2 o (-dg) w1
            have HFV := Lib.hid hfv
            clear hfv
            cases fv with
            | false =>
              go_wp2_with (go_at_call 49; (with_reducible refine (CFT.out _).mono ?_); rintro e8 w8 ⟨rfl, hb8⟩; have HB8 := Lib.hid hb8; clear hb8)
              refine bodyPost_ret (results_tmp2 rfl _ _ _) rfl ?_
              refine ⟨?_, below_then (HBT.out) HB8.out⟩
              have hnr := HNR.out
              unfold nearF
              rw [HYV.out, hnr, if_neg (by rw [HFV.out]; decide)]
              rfl
            | true =>
              go_wp2_with (go_at_call 49; (with_reducible refine (CFT.out _).mono ?_); rintro e8 w8 ⟨rfl, hb8⟩; have HB8 := Lib.hid hb8; clear hb8)
              refine bodyPost_ret (results_tmp2 rfl _ _ _) rfl ?_
              refine ⟨?_, below_then (HBT.out) HB8.out⟩
              have hnr := HNR.out
              unfold nearF
              rw [HYV.out, hnr, if_pos HFV.out]
              rfl
    · have y2 : W2.cell? ⟨w.heap.size, 2, none⟩ = some (.int .i64 3) := HW2.out.2.1 2
      have CAB : Hid (Calls Try.prog 47 #[.agg #[.bool g7, .slice A7 n7 c7, .slice B7 m7 d7]] W2 (RetQ W2 (absR y) (K + 2))) := Lib.hid (rt_Abs _ y (K + 2) W2 HQ2.out.arg (by omega) (by have := HKK.out; omega))
      have CFL : Hid (∀ u w1 b, RatQ b w1 u (absR y) (K + 2) → Calls Try.prog 44 #[u] w1 (RetI w1 (absR y).floor (K + 3))) := Lib.hid fun u w1 b hu => rt_Floor u (absR y) (K + 2) w1 hu.arg (by omega) (by have := HKK.out; omega)
      go_upto_region 11 with (first
        | ((with_reducible show wpList _ _ _ (Oper.mk _ (.load 28 _) _ _ _ _ :: _) _ _); refine wp_ld rfl 28 _ rfl (G) 0 rfl (HC2.out) [.bool g7, .slice A7 n7 c7, .slice B7 m7 d7] (fun j v h => by rcases j with _ | _ | _ | j <;> simp at h ⊢ <;> exact h) dsR HRR.out.1 HRR.out.2 size_Rat ?_)
        | (go_at_call 47; (with_reducible refine (CAB.out).mono ?_); rintro e4 w4 ⟨v4, rfl, hq, hb4⟩; have HQ4 := Lib.hid hq; obtain ⟨g4, A4, n4, c4, B4, m4, d4, rfl⟩ := hq.form; have HB4 := Lib.hid hb4; clear hq hb4)
        | (go_at_call 44; (with_reducible refine (CFL.out _ _ _ HQ4.out).mono ?_); rintro e5 w5 ⟨v5, rfl, hi, hb5⟩; have HO5 := Lib.hid hi; obtain ⟨ng5, A5, c5, l5, rfl, -⟩ := hi; have HB5 := Lib.hid hb5; clear hb5)
        | ((with_reducible show wpList _ _ _ (Oper.mk none (.store 26 (.tmp 7) _) _ _ _ _ :: _) _ _); refine wp_st rfl 26 _ _ rfl (H) 0 [_, _] rfl rfl size_Int rfl ((HH2.out.keep HB4.out).keep HB5.out) (Nat.le_refl _) rfl ?_; intro W3 cH qH))
      have HQ3 := Lib.hid (((HQ2.out.grow HB4.out).grow HB5.out).keptT qH ((HTY.out.grow HB4.out).grow HB5.out) (by decide))
      have CSG : Hid (Calls Try.prog 48 #[.agg #[.bool g7, .slice A7 n7 c7, .slice B7 m7 d7]] W3 fun e w' => e = .returned (.int .i64 (sgnR y)) ∧ Below W3.heap.size W3 w') := Lib.hid (rt_Sign _ y (K + 2) W3 HQ3.out.arg (by omega) (by have := HKK.out; omega))
      obtain ⟨ls, hs1, hs2, hs3, -, hs4⟩ := HO5.out.low (l := l5)
      have hlt := HS2.out
      have hs40 := HB4.out.size
      have HB3' : Hid (Below w.heap.size w W3) := Lib.hid (put_facts (below_then (below_then HB2.out HB4.out) HB5.out) (by omega) qH)
      have HC3 := Lib.hid (((HC2.out.keep HB4.out).keep HB5.out).grown qH (fun e => by injection e with e; omega))
      have HW3 := Lib.hid (((HW2.out.keep HB4.out).keep HB5.out).grown qH (fun e => by injection e with e; omega))
      have HL3 : Hid (OwG w4.heap.size W3 (.slice A5 l5.length c5) ls ∧ Nrm ls ∧ ls.length = l5.length ∧ sgn ng5 (nv ls) = (absR y).floor) := Lib.hid ⟨hs1.away qH (by omega), hs2, hs3, hs4⟩
      have HH3 : Hid (Box W3 H [.bool ng5, .slice A5 l5.length c5]) := Lib.hid cH
      have HS3 : Hid (H < w4.heap.size ∧ w.heap.size < H) := Lib.hid ⟨by omega, by omega⟩
      clear hs1 hs2 hs3 hs4 hs40 hlt qH cH y2 CFL CAB HO5 HB5 HQ4 HB4 HQ3 HTY
      generalize l5.length = ns at HL3 HH3 ⊢
      obtain ⟨sg, hsg⟩ : ∃ s, sgnR y = s := ⟨_, rfl⟩
      rw [hsg] at CSG
      have HSG := Lib.hid hsg
      clear hsg
      obtain ⟨fg, hfg⟩ : ∃ g, decide (sg < 0) = g := ⟨_, rfl⟩
      have HFG := Lib.hid hfg
      go_upto_region 12 with (first
        | ((with_reducible show wpList _ _ _ (Oper.mk _ (.load 28 _) _ _ _ _ :: _) _ _); refine wp_ld rfl 28 _ rfl (G) 0 rfl (HC3.out) [.bool g7, .slice A7 n7 c7, .slice B7 m7 d7] (fun j v h => by rcases j with _ | _ | _ | j <;> simp at h ⊢ <;> exact h) dsR HRR.out.1 HRR.out.2 size_Rat ?_)
        | (go_at_call 48; (with_reducible refine (CSG.out).mono ?_); rintro e6 w6 ⟨rfl, hb6⟩; have HB6 := Lib.hid hb6; have y0 : w6.cell? ⟨H, 0, none⟩ = some (.bool ng5) := (HH3.out.keep hb6).2.1 0; have yf : w6.frozen? ⟨H, 0, none⟩ = false := (HH3.out.keep hb6).2.2 0; clear hb6))
      have hb2 : Box (w6.setCell ⟨H, 0, none⟩ (.bool fg)) H [.bool fg, .slice A5 ns c5] ∧ w6.grownBy (w6.setCell ⟨H, 0, none⟩ (.bool fg)) (some H) := box_one (HH3.out.keep HB6.out) (by simp) rfl
      clear y0 yf hfg
      generalize w6.setCell ⟨H, 0, none⟩ (.bool fg) = WW at hb2 ⊢
      have hs3 := HS3.out
      obtain ⟨hl1, hl2, hl3, hl4⟩ := HL3.out
      have HBT : Hid (Below w.heap.size w WW) := Lib.hid (put_facts (below_then HB3'.out HB6.out) (by omega) hb2.2)
      have HWT := Lib.hid ((HW3.out.keep HB6.out).grown hb2.2 (fun e => by injection e with e; omega))
      have HHT : Hid (Box WW H [.bool fg, .slice A5 ns c5]) := Lib.hid hb2.1
      have HNT : Hid (nearI 3 y = sgn fg (nv ls)) := Lib.hid (near3_sgn (nv_low hl1.dig) hl4 (by rw [HSG.out]; exact HFG.out))
      obtain ⟨t, ht⟩ : ∃ t, sgn fg (nv ls) = t := ⟨_, rfl⟩
      rw [ht] at HNT
      have HLT : Hid (OwG w4.heap.size WW (.slice A5 ns c5) ls ∧ Nrm ls ∧ ls.length = ns ∧ sgn fg (nv ls) = t) := Lib.hid ⟨(hl1.grow HB6.out).away hb2.2 (by omega), hl2, hl3, ht⟩
      clear hl1 hl2 hl3 hl4 hb2 ht hs3 HSG HFG CSG HL3 HB6 HB3'
      generalize ng5 = fq at *
      have z1 : WW.cell? ⟨H, 1, none⟩ = some (.slice A5 ns c5) := HHT.out.2.1 1
      have z0 : WW.cell? ⟨H, 0, none⟩ = some (.bool fg) := HHT.out.2.1 0
      by_cases hns : 1 < ns
      · have hn1 : (1 : Int) < (ns : Int) := by omega
        have HN0 : Hid (nearF b (n : Int) 3 o x = (0, false)) := Lib.hid (by
          obtain ⟨o1, n1, e1, t1⟩ := HLT.out
          have h2 := nrm_two o1.dig n1 (by omega)
          unfold nearF
          rw [HYV.out, HNT.out, if_neg]
          rw [fits_big]
          · decide
          · cases fg <;> simp [sgn] at t1 <;> omega)
        clear hns
        go_wp2_with fail
        refine bodyPost_ret (results_tmp2 rfl _ _ _) rfl ?_
        exact ⟨by rw [HN0.out]; rfl, HBT.out⟩
      · rcases (show ns = 0 ∨ ns = 1 by omega) with h0 | h0
        · subst h0
          have HNR : Hid (nearI 3 y = 0) := Lib.hid (by
            obtain ⟨o1, n1, e1, t1⟩ := HLT.out
            rw [HNT.out, ← t1, List.length_eq_zero_iff.1 e1]
            cases fg <;> rfl)
          clear hns
          cases fg with
          | false =>
            have x0 : WW.cell? ⟨w.heap.size, 0, none⟩ = some (.int .i64 b) := (HWT.out).2.1 0
            have x1 : WW.cell? ⟨w.heap.size, 1, none⟩ = some (.int .i64 (n : Int)) := (HWT.out).2.1 1
            have x2 : WW.cell? ⟨w.heap.size, 2, none⟩ = some (.int .i64 3) := (HWT.out).2.1 2
            have x3 : WW.cell? ⟨w.heap.size, 3, none⟩ = some (.int .i64 o) := (HWT.out).2.1 3
            obtain ⟨fv, hfv⟩ : ∃ c, fitsW b (n : Int) 3 o (0) = c := ⟨_, rfl⟩
            have CFT : Hid (∀ w1, Calls Try.prog 49 #[wordV b (n : Int) 3 o, .int .i64 (0)] w1 fun e w' => e = .returned (.bool fv) ∧ Below w1.heap.size w1 w') := Lib.hid fun w1 => hfv ▸ fx_Fits b n 3 o (0) w1
            have HFV := Lib.hid hfv
            clear hfv
            cases fv with
            | false =>
              go_wp2_with (go_at_call 49; (with_reducible refine (CFT.out _).mono ?_); rintro e8 w8 ⟨rfl, hb8⟩; have HB8 := Lib.hid hb8; clear hb8)
              refine bodyPost_ret (results_tmp2 rfl _ _ _) rfl ?_
              refine ⟨?_, below_then (HBT.out) HB8.out⟩
              have hnr := HNR.out
              unfold nearF
              rw [HYV.out, hnr, if_neg (by rw [HFV.out]; decide)]
              rfl
            | true =>
              go_wp2_with (go_at_call 49; (with_reducible refine (CFT.out _).mono ?_); rintro e8 w8 ⟨rfl, hb8⟩; have HB8 := Lib.hid hb8; clear hb8)
              refine bodyPost_ret (results_tmp2 rfl _ _ _) rfl ?_
              refine ⟨?_, below_then (HBT.out) HB8.out⟩
              have hnr := HNR.out
              unfold nearF
              rw [HYV.out, hnr, if_pos HFV.out]
              rfl
          | true =>
            have x0 : WW.cell? ⟨w.heap.size, 0, none⟩ = some (.int .i64 b) := (HWT.out).2.1 0
            have x1 : WW.cell? ⟨w.heap.size, 1, none⟩ = some (.int .i64 (n : Int)) := (HWT.out).2.1 1
            have x2 : WW.cell? ⟨w.heap.size, 2, none⟩ = some (.int .i64 3) := (HWT.out).2.1 2
            have x3 : WW.cell? ⟨w.heap.size, 3, none⟩ = some (.int .i64 o) := (HWT.out).2.1 3
            obtain ⟨fv, hfv⟩ : ∃ c, fitsW b (n : Int) 3 o (0) = c := ⟨_, rfl⟩
            have CFT : Hid (∀ w1, Calls Try.prog 49 #[wordV b (n : Int) 3 o, .int .i64 (0)] w1 fun e w' => e = .returned (.bool fv) ∧ Below w1.heap.size w1 w') := Lib.hid fun w1 => hfv ▸ fx_Fits b n 3 o (0) w1
            have HFV := Lib.hid hfv
            clear hfv
            cases fv with
            | false =>
              go_wp2_with (go_at_call 49; (with_reducible refine (CFT.out _).mono ?_); rintro e8 w8 ⟨rfl, hb8⟩; have HB8 := Lib.hid hb8; clear hb8)
              refine bodyPost_ret (results_tmp2 rfl _ _ _) rfl ?_
              refine ⟨?_, below_then (HBT.out) HB8.out⟩
              have hnr := HNR.out
              unfold nearF
              rw [HYV.out, hnr, if_neg (by rw [HFV.out]; decide)]
              rfl
            | true =>
              go_wp2_with (go_at_call 49; (with_reducible refine (CFT.out _).mono ?_); rintro e8 w8 ⟨rfl, hb8⟩; have HB8 := Lib.hid hb8; clear hb8)
              refine bodyPost_ret (results_tmp2 rfl _ _ _) rfl ?_
              refine ⟨?_, below_then (HBT.out) HB8.out⟩
              have hnr := HNR.out
              unfold nearF
              rw [HYV.out, hnr, if_pos HFV.out]
              rfl
        · subst h0
          obtain ⟨o1, n1, e1, t1⟩ := HLT.out
          obtain ⟨ad, dg, rfl, _, hdx, hcx, i1, i2⟩ := o1.digA.at_ (k := 0) (by omega)
          have hcx : WW.cell? ad = some (.int .u32 dg) := hcx
          have hl1 : ls = [dg] := by
            match ls, e1, hdx with
            | [a], _, h => simp at h; rw [h]
          rw [hl1, nv_one] at t1
          have HNR1 : Hid (nearI 3 y = sgn fg dg) := Lib.hid (HNT.out.trans t1.symm)
          clear o1 n1 e1 t1 hl1 hdx hns
          cases fg with
          | false =>
            have HNR : Hid (nearI 3 y = dg) := HNR1
            have x0 : WW.cell? ⟨w.heap.size, 0, none⟩ = some (.int .i64 b) := (HWT.out).2.1 0
            have x1 : WW.cell? ⟨w.heap.size, 1, none⟩ = some (.int .i64 (n : Int)) := (HWT.out).2.1 1
            have x2 : WW.cell? ⟨w.heap.size, 2, none⟩ = some (.int .i64 3) := (HWT.out).2.1 2
            have x3 : WW.cell? ⟨w.heap.size, 3, none⟩ = some (.int .i64 o) := (HWT.out).2.1 3
            obtain ⟨fv, hfv⟩ : ∃ c, fitsW b (n : Int) 3 o (dg) = c := ⟨_, rfl⟩
            have CFT : Hid (∀ w1, Calls Try.prog 49 #[wordV b (n : Int) 3 o, .int .i64 (dg)] w1 fun e w' => e = .returned (.bool fv) ∧ Below w1.heap.size w1 w') := Lib.hid fun w1 => hfv ▸ fx_Fits b n 3 o (dg) w1
            have HFV := Lib.hid hfv
            clear hfv
            cases fv with
            | false =>
              go_wp2_with (go_at_call 49; (with_reducible refine (CFT.out _).mono ?_); rintro e8 w8 ⟨rfl, hb8⟩; have HB8 := Lib.hid hb8; clear hb8)
              refine bodyPost_ret (results_tmp2 rfl _ _ _) rfl ?_
              refine ⟨?_, below_then (HBT.out) HB8.out⟩
              have hnr := HNR.out
              unfold nearF
              rw [HYV.out, hnr, if_neg (by rw [HFV.out]; decide)]
              rfl
            | true =>
              go_wp2_with (go_at_call 49; (with_reducible refine (CFT.out _).mono ?_); rintro e8 w8 ⟨rfl, hb8⟩; have HB8 := Lib.hid hb8; clear hb8)
              refine bodyPost_ret (results_tmp2 rfl _ _ _) rfl ?_
              refine ⟨?_, below_then (HBT.out) HB8.out⟩
              have hnr := HNR.out
              unfold nearF
              rw [HYV.out, hnr, if_pos HFV.out]
              rfl
          | true =>
            have HNR : Hid (nearI 3 y = -dg) := HNR1
            have x0 : WW.cell? ⟨w.heap.size, 0, none⟩ = some (.int .i64 b) := (HWT.out).2.1 0
            have x1 : WW.cell? ⟨w.heap.size, 1, none⟩ = some (.int .i64 (n : Int)) := (HWT.out).2.1 1
            have x2 : WW.cell? ⟨w.heap.size, 2, none⟩ = some (.int .i64 3) := (HWT.out).2.1 2
            have x3 : WW.cell? ⟨w.heap.size, 3, none⟩ = some (.int .i64 o) := (HWT.out).2.1 3
            obtain ⟨fv, hfv⟩ : ∃ c, fitsW b (n : Int) 3 o (-dg) = c := ⟨_, rfl⟩
            have CFT : Hid (∀ w1, Calls Try.prog 49 #[wordV b (n : Int) 3 o, .int .i64 (-dg)] w1 fun e w' => e = .returned (.bool fv) ∧ Below w1.heap.size w1 w') := Lib.hid fun w1 => hfv ▸ fx_Fits b n 3 o (-dg) w1
            have HFV := Lib.hid hfv
            clear hfv
            cases fv with
            | false =>
              go_wp2_with (go_at_call 49; (with_reducible refine (CFT.out _).mono ?_); rintro e8 w8 ⟨rfl, hb8⟩; have HB8 := Lib.hid hb8; clear hb8)
              refine bodyPost_ret (results_tmp2 rfl _ _ _) rfl ?_
              refine ⟨?_, below_then (HBT.out) HB8.out⟩
              have hnr := HNR.out
              unfold nearF
              rw [HYV.out, hnr, if_neg (by rw [HFV.out]; decide)]
              rfl
            | true =>
              go_wp2_with (go_at_call 49; (with_reducible refine (CFT.out _).mono ?_); rintro e8 w8 ⟨rfl, hb8⟩; have HB8 := Lib.hid hb8; clear hb8)
              refine bodyPost_ret (results_tmp2 rfl _ _ _) rfl ?_
              refine ⟨?_, below_then (HBT.out) HB8.out⟩
              have hnr := HNR.out
              unfold nearF
              rw [HYV.out, hnr, if_pos HFV.out]
              rfl
  · have HN : Hid (nearF b f r o x = (0, false)) := Lib.hid (by
      unfold nearF
      rw [if_neg]
      unfold fitsW
      rw [h]
      simp)
    rw [h] at CV
    clear h hx hxx
    go_enter Try.func8, Try.ntmps8
    go_upto_region 1 with fail
    have hB0 : Below w.heap.size w ((w.alloc (.cells #[.int .i64 b, .int .i64 f, .int .i64 r, .int .i64 o] 23)).alloc (.cells #[.bool neg, .slice A na c, .slice B m d] 28)) := (((Below.refl _ _).alloc (Nat.le_refl _) _).alloc (by simp; try omega) _)
    have bx0 : Box ((w.alloc (.cells #[.int .i64 b, .int .i64 f, .int .i64 r, .int .i64 o] 23)).alloc (.cells #[.bool neg, .slice A na c, .slice B m d] 28)) (w.heap.size) [.int .i64 b, .int .i64 f, .int .i64 r, .int .i64 o] := ((Box.new (by simp)).alloc _)
    have bx1 : Box ((w.alloc (.cells #[.int .i64 b, .int .i64 f, .int .i64 r, .int .i64 o] 23)).alloc (.cells #[.bool neg, .slice A na c, .slice B m d] 28)) (w.heap.size + 1) [.bool neg, .slice A na c, .slice B m d] := (Box.new (by simp))
    generalize (w.alloc (.cells #[.int .i64 b, .int .i64 f, .int .i64 r, .int .i64 o] 23)).alloc (.cells #[.bool neg, .slice A na c, .slice B m d] 28) = wA at hB0 bx0 bx1 ⊢
    have HA := Lib.hid (And.intro hB0 (And.intro bx0 bx1))
    clear hB0 bx0 bx1
    have x0 : wA.cell? ⟨w.heap.size, 0, none⟩ = some (.int .i64 b) := (HA.out.2.1).2.1 0
    have x1 : wA.cell? ⟨w.heap.size, 1, none⟩ = some (.int .i64 f) := (HA.out.2.1).2.1 1
    have x2 : wA.cell? ⟨w.heap.size, 2, none⟩ = some (.int .i64 r) := (HA.out.2.1).2.1 2
    have x3 : wA.cell? ⟨w.heap.size, 3, none⟩ = some (.int .i64 o) := (HA.out.2.1).2.1 3
    go_wp2_with (go_at_call 41; (with_reducible refine (CV.out _).mono ?_); rintro e1 w1 ⟨rfl, hb1⟩; have HB1 := Lib.hid hb1; clear hb1)
    refine bodyPost_ret (results_tmp2 rfl _ _ _) rfl ?_
    exact ⟨by rw [HN.out]; rfl, below_then HA.out.1 HB1.out⟩
end Go.Proofs.Ytmdfgidejdiiiaa
