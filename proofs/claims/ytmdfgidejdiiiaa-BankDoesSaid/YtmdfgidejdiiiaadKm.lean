/- The walk of BankDoes. Printed by gen_km.py. -/
import Derived.Test.YtmdfgidejdiiiaadKh
import Derived.Test.YtmdfgidejdiiiaadV7toZt
import Derived.Test.YtmdfgidejdiiiaadR4toMk
set_option linter.unusedVariables false
set_option linter.unusedSimpArgs false
namespace Go.Proofs.Ytmdfgidejdiiiaa
open Go.RowKit
theorem light_two {ls : List Lft} (h : lightB ls = true) : ls.length ≤ 20 ∧ ∀ s ∈ ls, s.2.2.1.length ≤ 20 := by
  unfold lightB at h
  rw [Bool.and_eq_true, decide_eq_true_eq] at h
  exact ⟨h.2, fun s hs => of_decide_eq_true (List.all_eq_true.1 h.1 s hs)⟩
theorem anLo_len (ls : List Lft) (x : List Int) : (anLo ls x).length ≤ x.length ∧ (anHi ls x).length ≤ x.length := by
  unfold anLo anHi
  by_cases h : anE ls x = 0
  · have h1 := analyse_length (ls := ls) (anE_zero h).2.1
    rw [if_pos h, if_pos h]
    omega
  · rw [if_neg h, if_neg h]
    exact ⟨Nat.zero_le _, Nat.zero_le _⟩
theorem syX_len (ls : List Lft) (a b : List Int) : (syX ls a b).length ≤ 2 * a.length := by
  unfold syX
  split
  · rw [synth_length]; exact Nat.le_refl _
  · exact Nat.zero_le _
def Got3 (w : World) (a b : List Int) (n m : Nat) (E : Int) (e : Ending) (w' : World) : Prop := ∃ A c B d, e = .returned (.tuple #[.slice A n c, .slice B m d, .int .i64 E]) ∧ Ints w' A a ∧ Ints w' B b ∧ Below w.heap.size w w'
theorem Ret3.got {w w' : World} {a b : List Int} {n m : Nat} {E : Int} {e : Ending} (h : Ret3 w a b E e w') (hn : a.length = n) (hm : b.length = m) : Got3 w a b n m E e w' := by
  obtain ⟨v1, v2, rfl, o1, o2, hb⟩ := h
  obtain ⟨A, c, rfl, -, i1⟩ := o1.form
  obtain ⟨B, d, rfl, -, i2⟩ := o2.form
  exact ⟨A, c, B, d, by rw [hn, hm], i1, i2, hb⟩
def GotO1 (w : World) (a : List Int) (n : Nat) (E : Int) (e : Ending) (w' : World) : Prop := ∃ A c, e = .returned (.tuple #[.slice A n c, .int .i64 E]) ∧ Ints w' A a ∧ Below w.heap.size w w'
theorem RetInts.got {w w' : World} {a : List Int} {n : Nat} {E : Int} {e : Ending} (h : RetInts w a E e w') (hn : a.length = n) : GotO1 w a n E e w' := by
  obtain ⟨v1, rfl, o1, hb⟩ := h
  obtain ⟨A, c, rfl, -, i1⟩ := o1.form
  exact ⟨A, c, by rw [hn], i1, hb⟩
def GotQ (w : World) (z1 z2 : Rat) (K : Nat) (E : Int) (e : Ending) (w' : World) : Prop := ∃ g1 A1 n1 c1 B1 m1 d1 g2 A2 n2 c2 B2 m2 d2, e = .returned (.tuple #[.agg #[.bool g1, .slice A1 n1 c1, .slice B1 m1 d1], .agg #[.bool g2, .slice A2 n2 c2, .slice B2 m2 d2], .int .i64 E]) ∧ RatA w' (.agg #[.bool g1, .slice A1 n1 c1, .slice B1 m1 d1]) z1 K ∧ RatA w' (.agg #[.bool g2, .slice A2 n2 c2, .slice B2 m2 d2]) z2 K ∧ Below w.heap.size w w'
theorem RetQQ.got {w w' : World} {z1 z2 : Rat} {K M : Nat} {E : Int} {e : Ending} (h : RetQQ w z1 z2 K E e w') (hk : K ≤ M) : GotQ w z1 z2 M E e w' := by
  obtain ⟨v1, v2, rfl, h1, h2, hb⟩ := h
  obtain ⟨g1, A1, n1, c1, l1, B1, m1, d1, r1, rfl, e1⟩ := h1
  obtain ⟨g2, A2, n2, c2, l2, B2, m2, d2, r2, rfl, e2⟩ := h2
  exact ⟨g1, A1, n1, c1, B1, m1, d1, g2, A2, n2, c2, B2, m2, d2, rfl, RatA.le ⟨g1, A1, n1, c1, l1, B1, m1, d1, r1, rfl, e1⟩ hk, RatA.le ⟨g2, A2, n2, c2, l2, B2, m2, d2, r2, rfl, e2⟩ hk, hb⟩
theorem cmp_same {w : World} {v u : Value} {z : Rat} (h1 : RatA w v z 50000) (h2 : RatA w u z 50000) : Calls Try.prog 13 #[v, u] w fun e w' => e = .returned (.int .i64 0) ∧ Below w.heap.size w w' := by
  have h := r3_Compare v u z z 50000 50000 w h1 h2 (by decide) (by decide) (by decide) (by decide)
  rw [show cmpR z z = 0 from by unfold cmpR; rw [if_neg (Rat.lt_irrefl), if_pos rfl]] at h
  exact h
theorem same_n {w : World} {A B : Option Addr} {l : List Int} {n c d : Nat} (hn : l.length = n) (hl : n ≤ 1000000) (h1 : Ints w A l) (h2 : Ints w B l) : Calls Try.prog 25 #[.slice A n c, .slice B n d] w fun e w' => e = .returned (.bool true) ∧ Below w.heap.size w w' := by
  subst hn
  exact rf_Same A B l l c d w (by omega) rfl h1 h2
set_option maxRecDepth 100000 in
set_option maxHeartbeats 4000000 in
theorem law_BankDoes (u : Option Addr × Nat × List Lft) (t1 t2 t3 : Option Addr × Nat × List Int) (w : World)
    (hu : Lifts w u.1 u.2.2 ∧ u.2.2.length ≤ 9223372036854775807 ∧ ∀ s ∈ u.2.2, s.2.2.1.length ≤ 9223372036854775807) (ht1 : Ints w t1.1 t1.2.2 ∧ t1.2.2.length ≤ 9223372036854775807) (ht2 : Ints w t2.1 t2.2.2 ∧ t2.2.2.length ≤ 9223372036854775807) (ht3 : Ints w t3.1 t3.2.2 ∧ t3.2.2.length ≤ 9223372036854775807) :
    Calls Try.prog 4 #[.slice u.1 u.2.2.length u.2.1, .slice t1.1 t1.2.2.length t1.2.1, .slice t2.1 t2.2.2.length t2.2.1, .slice t3.1 t3.2.2.length t3.2.1] w fun e w' => e = .returned (.bool true) ∧ Below w.heap.size w w' := by
  obtain ⟨A, cA, ls⟩ := u
  obtain ⟨T, cT, x⟩ := t1
  obtain ⟨F, cF, a⟩ := t2
  obtain ⟨S, cS, b⟩ := t3
  obtain ⟨hL, hl1, hl2⟩ := hu
  obtain ⟨hT, hx1⟩ := ht1
  obtain ⟨hF, ha1⟩ := ht2
  obtain ⟨hS, hb1⟩ := ht3
  dsimp only at hL hl1 hl2 hT hx1 hF ha1 hS hb1 ⊢
  obtain ⟨L, hLn⟩ : ∃ n, ls.length = n := ⟨_, rfl⟩
  obtain ⟨X, hXn⟩ : ∃ n, x.length = n := ⟨_, rfl⟩
  obtain ⟨Y, hYn⟩ : ∃ n, a.length = n := ⟨_, rfl⟩
  obtain ⟨Z, hZn⟩ : ∃ n, b.length = n := ⟨_, rfl⟩
  obtain ⟨lg, hlg⟩ : ∃ v, lightB ls = v := ⟨_, rfl⟩
  have CL : Hid (∀ w1, w1 = w → Calls Try.prog 15 #[.slice A L cA] w1 fun e w' => e = .returned (.bool lg) ∧ w1 = w') := Lib.hid fun w1 e => by
    subst e
    have h := l33_light A ls cA w1 hL hl1 hl2
    rw [hlg, hLn] at h
    exact h
  have CL : Hid (∀ _ : Unit, Calls Try.prog 15 #[.slice A L cA] w fun e w' => e = .returned (.bool lg) ∧ w = w') := Lib.hid fun _ => CL.out w rfl
  rw [hLn, hXn, hYn, hZn]
  cases lg with
  | false =>
    clear hL hl1 hl2 hT hx1 hF ha1 hS hb1 hLn hXn hYn hZn hlg
    go_enter Try.func4, Try.ntmps4
    go_wp2_with (first
      | (go_at_call 15; (with_reducible refine (CL.out ()).mono ?_); rintro e0 w0 ⟨rfl, rfl⟩)
      | (go_at_call 16; (with_reducible refine (known33 _).mono ?_); rintro e1 w1 ⟨rfl, hk⟩))
    go_ret
    exact ⟨rfl, hk⟩
  | true =>
    obtain ⟨hll, hlc⟩ := light_two hlg
    by_cases hxs : X ≤ 100
    · have d1 : (X : Int) ≤ 100 := by omega
      have d2 : ¬ (100 : Int) < (X : Int) := by omega
      have d3 : decide ((100 : Int) < (X : Int)) = false := decide_eq_false d2
      by_cases hys : Y ≤ 100
      · have d4 : (Y : Int) ≤ 100 := by omega
        have d5 : ¬ (100 : Int) < (Y : Int) := by omega
        have d6 : decide ((100 : Int) < (Y : Int)) = false := decide_eq_false d5
        by_cases hzs : Z ≤ 100
        · have d7 : (Z : Int) ≤ 100 := by omega
          have d8 : ¬ (100 : Int) < (Z : Int) := by omega
          have d9 : decide ((100 : Int) < (Z : Int)) = false := decide_eq_false d8
          obtain ⟨lo, hlo⟩ : ∃ l, anLo ls x = l := ⟨_, rfl⟩
          obtain ⟨hi, hhi⟩ : ∃ l, anHi ls x = l := ⟨_, rfl⟩
          obtain ⟨sy, hsy⟩ : ∃ l, syX ls a b = l := ⟨_, rfl⟩
          obtain ⟨E1, hE1⟩ : ∃ e, anE ls x = e := ⟨_, rfl⟩
          obtain ⟨E2, hE2⟩ : ∃ e, syE ls a b = e := ⟨_, rfl⟩
          obtain ⟨ok, hok⟩ : ∃ v, lftsB ls = v := ⟨_, rfl⟩
          have hln := anLo_len ls x
          have hls := syX_len ls a b
          rw [hlo, hhi] at hln
          rw [hsy] at hls
          obtain ⟨nl, hnl⟩ : ∃ n, lo.length = n := ⟨_, rfl⟩
          obtain ⟨nh, hnh⟩ : ∃ n, hi.length = n := ⟨_, rfl⟩
          obtain ⟨ns, hns⟩ : ∃ n, sy.length = n := ⟨_, rfl⟩
          have HNL : Hid (lo.length = nl ∧ hi.length = nh ∧ sy.length = ns ∧ nl ≤ 100 ∧ nh ≤ 100 ∧ ns ≤ 200) := Lib.hid ⟨hnl, hnh, hns, by omega, by omega, by omega⟩
          have hl3 : ls.length ≤ 1000000 := by omega
          have CA1 : Hid (∀ w1, Below w.heap.size w w1 → Calls Try.prog 17 #[.slice A L cA, .slice T X cT] w1 (Got3 w1 lo hi nl nh E1)) := Lib.hid fun w1 hb => by
            have h := bk_Analyse A T ls x cA cT w1 (hL.grow hb) (hT.grow hb) hl3 hl2 (by omega)
            rw [hLn, hXn, hlo, hhi, hE1] at h
            exact h.mono fun e w' h => h.got hnl hnh
          have CA2 : Hid (∀ w1, Below w.heap.size w w1 → Calls Try.prog 18 #[.slice A L cA, .slice T X cT] w1 (Got3 w1 lo hi nl nh E1)) := Lib.hid fun w1 hb => by
            have h := r33_Analyse A T ls x cA cT w1 (hL.grow hb) (hT.grow hb) hl3 hl2 (by omega)
            rw [hLn, hXn, hlo, hhi, hE1] at h
            exact h.mono fun e w' h => h.got hnl hnh
          have CS1 : Hid (∀ w1, Below w.heap.size w w1 → Calls Try.prog 19 #[.slice A L cA, .slice F Y cF, .slice S Z cS] w1 (GotO1 w1 sy ns E2)) := Lib.hid fun w1 hb => by
            have h := bk_Synthesise A F S ls a b cA cF cS w1 (hL.grow hb) (hF.grow hb) (hS.grow hb) hl3 hl2 (by omega) (by omega)
            rw [hLn, hYn, hZn, hsy, hE2] at h
            exact h.mono fun e w' h => h.got hns
          have CS2 : Hid (∀ w1, Below w.heap.size w w1 → Calls Try.prog 20 #[.slice A L cA, .slice F Y cF, .slice S Z cS] w1 (GotO1 w1 sy ns E2)) := Lib.hid fun w1 hb => by
            have h := r33_Synthesise A F S ls a b cA cF cS w1 (hL.grow hb) (hF.grow hb) (hS.grow hb) hl3 hl2 (by omega) (by omega)
            rw [hLn, hYn, hZn, hsy, hE2] at h
            exact h.mono fun e w' h => h.got hns
          have CV1 : Hid (∀ w1, Below w.heap.size w w1 → Calls Try.prog 23 #[.slice A L cA] w1 fun e w' => e = .returned (.bool ok) ∧ Below w1.heap.size w1 w') := Lib.hid fun w1 hb => by
            have h := bk_Valid A ls cA w1 (hL.grow hb) hl3 hl2
            rw [hLn, hok] at h
            exact h
          have CV2 : Hid (∀ w1, Below w.heap.size w w1 → Calls Try.prog 24 #[.slice A L cA] w1 fun e w' => e = .returned (.bool ok) ∧ Below w1.heap.size w1 w') := Lib.hid fun w1 hb => by
            have h := r33_Valid A ls cA w1 (hL.grow hb) hl3 hl2
            rw [hLn, hok] at h
            exact h.mono fun e w' h => ⟨h.1, h.2 ▸ Below.refl _ _⟩
          obtain ⟨z1, z2, EQ, hI⟩ : ∃ (z1 z2 : Rat) (EQ : Int), (∀ w1, Below w.heap.size w w1 → Calls Try.prog 21 #[.slice A L cA] w1 (GotQ w1 z1 z2 50000 EQ)) ∧ ∀ w1, Below w.heap.size w w1 → Calls Try.prog 22 #[.slice A L cA] w1 (GotQ w1 z1 z2 50000 EQ) := by
            cases ok with
            | true => exact ⟨_, _, 0, fun w1 hb => (bk_Inexact_ok A ls cA L w1 (hL.grow hb) hLn (by omega) hl2 hok).mono fun e w' h => h.got (by decide), fun w1 hb => (r33_Inexact_ok A ls cA L w1 (hL.grow hb) hLn (by omega) hl2 hok).mono fun e w' h => h.got (by decide)⟩
            | false => exact ⟨0, 0, 2, fun w1 hb => (bk_Inexact_no A ls cA L w1 (hL.grow hb) hLn (by omega) hl2 hok).mono fun e w' h => h.got (by decide), fun w1 hb => (r33_Inexact_no A ls cA L w1 (hL.grow hb) hLn (by omega) hl2 hok).mono fun e w' h => h.got (by decide)⟩
          have CI1 := Lib.hid hI.1
          have CI2 := Lib.hid hI.2
          clear hL hl1 hl2 hT hx1 hF ha1 hS hb1 hLn hXn hYn hZn hlg hll hlc hxs hys hzs hlo hhi hsy hE1 hE2 hok hln hls hnl hnh hns hl3 hI
          obtain ⟨dsR, hR1, hR2⟩ := row_Rat
          have HRR := Lib.hid (And.intro hR1 hR2)
          clear hR1 hR2
          go_enter Try.func4, Try.ntmps4
          go_upto_region 3 with (go_at_call 15; (with_reducible refine (CL.out ()).mono ?_); rintro e0 w0 ⟨rfl, rfl⟩)
          clear d1 d2 d3 d4 d5 d6 d7 d8 d9
          go_upto_region 4 with (go_at_call 17; (with_reducible refine (CA1.out _ (Below.refl _ _)).mono ?_); rintro e1 w1 ⟨U1, e1', U2, e2', rfl, hi1, hi2, hb1⟩)
          have HB1 := Lib.hid hb1
          have H1 := Lib.hid (And.intro hi1 hi2)
          clear hi1 hi2 hb1 CA1
          go_upto_region 5 with (go_at_call 18; (with_reducible refine (CA2.out _ HB1.out).mono ?_); rintro e2 w2 ⟨U3, e3', U4, e4', rfl, hi3, hi4, hb2⟩)
          have HB2 := Lib.hid (below_then HB1.out hb2)
          have H2 := Lib.hid (And.intro (And.intro (H1.out.1.grow hb2) (H1.out.2.grow hb2)) (And.intro hi3 hi4))
          clear hi3 hi4 hb2 CA2 H1 HB1
          go_upto_region 6 with (go_at_call 19; (with_reducible refine (CS1.out _ HB2.out).mono ?_); rintro e3 w3 ⟨U5, e5', rfl, hi5, hb3⟩)
          have HB3 := Lib.hid (below_then HB2.out hb3)
          have H3 := Lib.hid (And.intro (And.intro (H2.out.1.1.grow hb3) (H2.out.1.2.grow hb3)) (And.intro (And.intro (H2.out.2.1.grow hb3) (H2.out.2.2.grow hb3)) hi5))
          clear hi5 hb3 CS1 H2 HB2
          go_upto_region 7 with (go_at_call 20; (with_reducible refine (CS2.out _ HB3.out).mono ?_); rintro e4 w4 ⟨U6, e6', rfl, hi6, hb4⟩)
          have HB4 := Lib.hid (below_then HB3.out hb4)
          have H4 : Hid (∀ w', Below w4.heap.size w4 w' → ((Ints w' U1 lo ∧ Ints w' U2 hi) ∧ (Ints w' U3 lo ∧ Ints w' U4 hi) ∧ Ints w' U5 sy ∧ Ints w' U6 sy)) := Lib.hid fun w' hb => ⟨⟨(H3.out.1.1.grow hb4).grow hb, (H3.out.1.2.grow hb4).grow hb⟩, ⟨(H3.out.2.1.1.grow hb4).grow hb, (H3.out.2.1.2.grow hb4).grow hb⟩, (H3.out.2.2.grow hb4).grow hb, hi6.grow hb⟩
          clear hi6 hb4 CS2 H3 HB3
          go_upto_region 8 with (first
            | (go_at_call 21; (with_reducible refine (CI1.out _ HB4.out).mono ?_); rintro e5 w5 ⟨g1, A1, n1, c1, B1, m1, d1, g2, A2, n2, c2, B2, m2, d2, rfl, hq1, hq2, hb5⟩)
            | ((with_reducible show wpList _ _ _ (Oper.mk none (.store 28 (.tmp 19) _) _ _ _ _ :: _) _ _); refine wp_stT rfl 28 _ _ rfl (w5.heap.size) 0 [_, _, _] rfl rfl size_Rat rfl ((Box.new (by simp)).alloc _) (Nat.le_refl _) rfl ?_; intro Wa ka qa ta)
            | ((with_reducible show wpList _ _ _ (Oper.mk none (.store 28 (.tmp 20) _) _ _ _ _ :: _) _ _); refine wp_stT rfl 28 _ _ rfl (w5.heap.size + 1) 0 [_, _, _] rfl rfl size_Rat rfl ((Box.new (by simp)).grown qa (fun e => by injection e with e; omega)) (Nat.le_refl _) rfl ?_; intro Wb kb qb tb))
          have hbA : Below w5.heap.size w5 Wa := put_facts (((Below.refl _ _).alloc (Nat.le_refl _) _).alloc (by simp) _) (Nat.le_refl _) qa
          have hbB : Below w5.heap.size w5 Wb := put_facts hbA (by omega) qb
          have HB5 := Lib.hid (below_then (below_then HB4.out hb5) hbB)
          have HD5 := Lib.hid (below_then hb5 hbB)
          have HX1 : Hid (Box Wb w5.heap.size [.bool g1, .slice A1 n1 c1, .slice B1 m1 d1]) := Lib.hid (ka.grown qb (fun e => by injection e with e; omega))
          have HX2 : Hid (Box Wb (w5.heap.size + 1) [.bool g2, .slice A2 n2 c2, .slice B2 m2 d2]) := Lib.hid kb
          have HQ1 := Lib.hid (And.intro (hq1.grow hbB) (hq2.grow hbB))
          obtain ⟨gx, hgx⟩ : ∃ g, w5.heap.size = g := ⟨_, rfl⟩
          rw [hgx] at HX1 HX2 ⊢
          clear hq1 hq2 hb5 ka qa ta kb qb tb hbA hbB hgx CI1
          go_upto_region 9 with (first
            | (go_at_call 22; (with_reducible refine (CI2.out _ HB5.out).mono ?_); rintro e6 w6 ⟨g3, A3, n3, c3, B3, m3, d3, g4, A4, n4, c4, B4, m4, d4, rfl, hq3, hq4, hb6⟩)
            | ((with_reducible show wpList _ _ _ (Oper.mk none (.store 28 (.tmp 22) _) _ _ _ _ :: _) _ _); refine wp_stT rfl 28 _ _ rfl (w6.heap.size) 0 [_, _, _] rfl rfl size_Rat rfl ((Box.new (by simp)).alloc _) (Nat.le_refl _) rfl ?_; intro Wc kc qc tc)
            | ((with_reducible show wpList _ _ _ (Oper.mk none (.store 28 (.tmp 23) _) _ _ _ _ :: _) _ _); refine wp_stT rfl 28 _ _ rfl (w6.heap.size + 1) 0 [_, _, _] rfl rfl size_Rat rfl ((Box.new (by simp)).grown qc (fun e => by injection e with e; omega)) (Nat.le_refl _) rfl ?_; intro Wd kd qd td))
          have hbA : Below w6.heap.size w6 Wc := put_facts (((Below.refl _ _).alloc (Nat.le_refl _) _).alloc (by simp) _) (Nat.le_refl _) qc
          have hbB : Below w6.heap.size w6 Wd := put_facts hbA (by omega) qd
          have hbC := below_then hb6 hbB
          have HB6 := Lib.hid (below_then HB5.out hbC)
          have HD6 := Lib.hid (below_then HD5.out hbC)
          have HX3 : Hid (Box Wd w6.heap.size [.bool g3, .slice A3 n3 c3, .slice B3 m3 d3]) := Lib.hid (kc.grown qd (fun e => by injection e with e; omega))
          have HX4 : Hid (Box Wd (w6.heap.size + 1) [.bool g4, .slice A4 n4 c4, .slice B4 m4 d4]) := Lib.hid kd
          have HX5 := Lib.hid (HX1.out.keep hbC)
          have HX6 := Lib.hid (HX2.out.keep hbC)
          have CC1' : Hid (∀ w', Below Wd.heap.size Wd w' → Calls Try.prog 13 #[.agg #[.bool g1, .slice A1 n1 c1, .slice B1 m1 d1], .agg #[.bool g3, .slice A3 n3 c3, .slice B3 m3 d3]] w' fun e w'' => e = .returned (.int .i64 0) ∧ Below w'.heap.size w' w'') := Lib.hid fun w' hb => cmp_same ((HQ1.out.1.grow hbC).grow hb) ((hq3.grow hbB).grow hb)
          have CC2' : Hid (∀ w', Below Wd.heap.size Wd w' → Calls Try.prog 13 #[.agg #[.bool g2, .slice A2 n2 c2, .slice B2 m2 d2], .agg #[.bool g4, .slice A4 n4 c4, .slice B4 m4 d4]] w' fun e w'' => e = .returned (.int .i64 0) ∧ Below w'.heap.size w' w'') := Lib.hid fun w' hb => cmp_same ((HQ1.out.2.grow hbC).grow hb) ((hq4.grow hbB).grow hb)
          obtain ⟨gy, hgy⟩ : ∃ g, w6.heap.size = g := ⟨_, rfl⟩
          rw [hgy] at HX3 HX4 ⊢
          have CE1 : Hid (∀ w', Below Wd.heap.size Wd w' → Calls Try.prog 25 #[.slice U1 nl e1', .slice U3 nl e3'] w' fun e w'' => e = .returned (.bool true) ∧ Below w'.heap.size w' w'') := Lib.hid fun w' hb => same_n HNL.out.1 (by have := HNL.out.2.2.2; omega) (H4.out _ (below_then HD6.out hb)).1.1 (H4.out _ (below_then HD6.out hb)).2.1.1
          have CE2 : Hid (∀ w', Below Wd.heap.size Wd w' → Calls Try.prog 25 #[.slice U2 nh e2', .slice U4 nh e4'] w' fun e w'' => e = .returned (.bool true) ∧ Below w'.heap.size w' w'') := Lib.hid fun w' hb => same_n HNL.out.2.1 (by have := HNL.out.2.2.2; omega) (H4.out _ (below_then HD6.out hb)).1.2 (H4.out _ (below_then HD6.out hb)).2.1.2
          have CE3 : Hid (∀ w', Below Wd.heap.size Wd w' → Calls Try.prog 25 #[.slice U5 ns e5', .slice U6 ns e6'] w' fun e w'' => e = .returned (.bool true) ∧ Below w'.heap.size w' w'') := Lib.hid fun w' hb => same_n HNL.out.2.2.1 (by have := HNL.out.2.2.2; omega) (H4.out _ (below_then HD6.out hb)).2.2.1 (H4.out _ (below_then HD6.out hb)).2.2.2
          have hb : Below Wd.heap.size Wd Wd := Below.refl _ _
          clear hq3 hq4 hb6 kc qc tc kd qd td hbA hbB hbC hgy CI2 HX1 HX2 HQ1
          go_wp2_with (first
            | (go_at_call 16; (with_reducible refine (known33 _).mono ?_); rintro e7 w7 ⟨rfl, hb7⟩; have hb := below_then hb hb7)
            | (go_at_call 23; (with_reducible refine (CV1.out _ (below_then HB6.out hb)).mono ?_); rintro e7 w7 ⟨rfl, hb7⟩; have hb := below_then hb hb7)
            | (go_at_call 24; (with_reducible refine (CV2.out _ (below_then HB6.out hb)).mono ?_); rintro e7 w7 ⟨rfl, hb7⟩; have hb := below_then hb hb7)
            | (go_at_call 25; (first | (with_reducible refine (CE1.out _ hb).mono ?_) | (with_reducible refine (CE2.out _ hb).mono ?_) | (with_reducible refine (CE3.out _ hb).mono ?_)); rintro e7 w7 ⟨rfl, hb7⟩; have hb := below_then hb hb7)
            | (go_at_call 13; (first | (with_reducible refine (CC1'.out _ hb).mono ?_) | (with_reducible refine (CC2'.out _ hb).mono ?_)); rintro e7 w7 ⟨rfl, hb7⟩; have hb := below_then hb hb7)
            | ((with_reducible show wpList _ _ _ (Oper.mk (some 123) (.load 28 _) _ _ _ _ :: _) _ _); (with_reducible refine wpList_want (by kernel_rfl) ?_); refine wp_ld rfl 28 _ rfl (gx) 0 rfl (HX5.out.keep hb) [.bool g1, .slice A1 n1 c1, .slice B1 m1 d1] (fun j v h => by rcases j with _ | _ | _ | j <;> simp at h ⊢ <;> exact h) dsR HRR.out.1 HRR.out.2 size_Rat ?_)
            | ((with_reducible show wpList _ _ _ (Oper.mk (some 124) (.load 28 _) _ _ _ _ :: _) _ _); (with_reducible refine wpList_want (by kernel_rfl) ?_); refine wp_ld rfl 28 _ rfl (gy) 0 rfl (HX3.out.keep hb) [.bool g3, .slice A3 n3 c3, .slice B3 m3 d3] (fun j v h => by rcases j with _ | _ | _ | j <;> simp at h ⊢ <;> exact h) dsR HRR.out.1 HRR.out.2 size_Rat ?_)
            | ((with_reducible show wpList _ _ _ (Oper.mk (some 129) (.load 28 _) _ _ _ _ :: _) _ _); (with_reducible refine wpList_want (by kernel_rfl) ?_); refine wp_ld rfl 28 _ rfl (gx + 1) 0 rfl (HX6.out.keep hb) [.bool g2, .slice A2 n2 c2, .slice B2 m2 d2] (fun j v h => by rcases j with _ | _ | _ | j <;> simp at h ⊢ <;> exact h) dsR HRR.out.1 HRR.out.2 size_Rat ?_)
            | ((with_reducible show wpList _ _ _ (Oper.mk (some 130) (.load 28 _) _ _ _ _ :: _) _ _); (with_reducible refine wpList_want (by kernel_rfl) ?_); refine wp_ld rfl 28 _ rfl (gy + 1) 0 rfl (HX4.out.keep hb) [.bool g4, .slice A4 n4 c4, .slice B4 m4 d4] (fun j v h => by rcases j with _ | _ | _ | j <;> simp at h ⊢ <;> exact h) dsR HRR.out.1 HRR.out.2 size_Rat ?_))
          go_ret
          exact ⟨rfl, below_then HB6.out hb⟩
        · have d7 : (100 : Int) < (Z : Int) := by omega
          have d9 : decide ((100 : Int) < (Z : Int)) = true := decide_eq_true d7
          clear hL hl1 hl2 hT hx1 hF ha1 hS hb1 hLn hXn hYn hZn hlg hll hlc hxs hys hzs
          go_enter Try.func4, Try.ntmps4
          go_wp2_with (first
            | (go_at_call 15; (with_reducible refine (CL.out ()).mono ?_); rintro e0 w0 ⟨rfl, rfl⟩)
            | (go_at_call 16; (with_reducible refine (known33 _).mono ?_); rintro e1 w1 ⟨rfl, hk⟩))
          go_ret
          exact ⟨rfl, hk⟩
      · have d4 : (100 : Int) < (Y : Int) := by omega
        have d6 : decide ((100 : Int) < (Y : Int)) = true := decide_eq_true d4
        clear hL hl1 hl2 hT hx1 hF ha1 hS hb1 hLn hXn hYn hZn hlg hll hlc hxs hys
        go_enter Try.func4, Try.ntmps4
        go_wp2_with (first
          | (go_at_call 15; (with_reducible refine (CL.out ()).mono ?_); rintro e0 w0 ⟨rfl, rfl⟩)
          | (go_at_call 16; (with_reducible refine (known33 _).mono ?_); rintro e1 w1 ⟨rfl, hk⟩))
        go_ret
        exact ⟨rfl, hk⟩
    · have d1 : (100 : Int) < (X : Int) := by omega
      have d3 : decide ((100 : Int) < (X : Int)) = true := decide_eq_true d1
      clear hL hl1 hl2 hT hx1 hF ha1 hS hb1 hLn hXn hYn hZn hlg hll hlc hxs
      go_enter Try.func4, Try.ntmps4
      go_wp2_with (first
        | (go_at_call 15; (with_reducible refine (CL.out ()).mono ?_); rintro e0 w0 ⟨rfl, rfl⟩)
        | (go_at_call 16; (with_reducible refine (known33 _).mono ?_); rintro e1 w1 ⟨rfl, hk⟩))
      go_ret
      exact ⟨rfl, hk⟩
end Go.Proofs.Ytmdfgidejdiiiaa
