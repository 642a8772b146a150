/- Several texts in one: Z2 J4 J7. -/
import Derived.Test.YtmdfgidejdiiiaalZwtoZ1
import Derived.Test.YtmdfgidejdiiiaalJ
import Derived.Test.YtmdfgidejdiiiaalJ2toVp
set_option linter.unusedVariables false
set_option linter.unusedSimpArgs false
section
namespace Go.Proofs.Ytmdfgidejdiiiaa
open Go.RowKit
def RatE (b : Nat) (w : World) (v : Value) (P Q : Int) (K M : Nat) : Prop := ∃ p q, RatO b w v p q K M ∧ p * Q = P * q ∧ 0 < q
def RetL (w : World) (P Q : Int) (K M : Nat) (e : Ending) (w' : World) : Prop := ∃ v, e = .returned v ∧ RatE w.heap.size w' v P Q K M ∧ Below w.heap.size w w'
theorem sgn_scale (b : Bool) (x y : Int) : sgn b (x * y) = sgn b x * y := by
  cases b <;> simp [sgn, Int.neg_mul]
theorem NumO.base {b b' : Nat} {w : World} {v : Value} {x : Int} {K : Nat} (h : NumO b w v x K) (hb : b' ≤ b) : NumO b' w v x K := by
  obtain ⟨A, c, l, e, o, r⟩ := h; exact ⟨A, c, l, e, o.base hb, r⟩
theorem IntO.base {b b' : Nat} {w : World} {v : Value} {x : Int} {K : Nat} (h : IntO b w v x K) (hb : b' ≤ b) : IntO b' w v x K := by
  obtain ⟨n, A, c, l, e, o, r⟩ := h; exact ⟨n, A, c, l, e, o.base hb, r⟩
inductive Dsq where
  | v (u : Value)
  | num (x : Int) (K : Nat)
  | int (z : Int) (K : Nat)
  | rat (p q : Int) (K M : Nat)
def dQ (b : Nat) (ds : List Dsq) (i : Nat) (v : Value) (w : World) : Prop :=
  match ds[i]? with
  | some (.v u) => v = u
  | some (.num x K) => NumO b w v x K
  | some (.int z K) => IntO b w v z K
  | some (.rat p q K M) => RatO b w v p q K M
  | none => True
theorem RatO.grow {b : Nat} {w w' : World} {v : Value} {p q : Int} {K M : Nat} (h : RatO b w v p q K M) (hb : Below w.heap.size w w') : RatO b w' v p q K M := by
  obtain ⟨n, A, c, l, B, d, r, e, ⟨o, o'⟩, t, t'⟩ := h; exact ⟨n, A, c, l, B, d, r, e, ⟨o.grow hb, o'⟩, t.grow hb, t'⟩
theorem RatO.away {b g : Nat} {w w' : World} {v : Value} {p q : Int} {K M : Nat} (h : RatO b w v p q K M) (hb : w.grownBy w' (some g)) (hg : g < b) : RatO b w' v p q K M := by
  obtain ⟨n, A, c, l, B, d, r, e, ⟨o, o'⟩, t, t'⟩ := h; exact ⟨n, A, c, l, B, d, r, e, ⟨o.away hb hg, o'⟩, t.away hb hg, t'⟩
theorem RatO.base {b b' : Nat} {w : World} {v : Value} {p q : Int} {K M : Nat} (h : RatO b w v p q K M) (hb : b' ≤ b) : RatO b' w v p q K M := by
  obtain ⟨n, A, c, l, B, d, r, e, ⟨o, o'⟩, t, t'⟩ := h; exact ⟨n, A, c, l, B, d, r, e, ⟨o.base hb, o'⟩, t.base hb, t'⟩
theorem dQ_keep {b : Nat} {ds : List Dsq} {w w' : World} (h : Below w.heap.size w w') (i : Nat) (v : Value) (hf : dQ b ds i v w) : dQ b ds i v w' := by
  unfold dQ at hf ⊢
  split at hf
  · exact hf
  · exact hf.grow h
  · exact hf.grow h
  · exact hf.grow h
  · trivial
theorem low_facts {G x y : Int} (hy : 0 < y) (h1 : G ∣ x) (h2 : G ∣ y) (hG : 0 ≤ G) (neg : Bool) : sgn neg (x / G) * y = sgn neg x * (y / G) ∧ 0 < y / G ∧ G ≠ 0 := by
  have hG0 : G ≠ 0 := fun e => by subst e; have := Int.zero_dvd.1 h2; omega
  obtain ⟨a, rfl⟩ := h1
  obtain ⟨b, rfl⟩ := h2
  have hGp : 0 < G := by omega
  rw [Int.mul_ediv_cancel_left _ hG0, Int.mul_ediv_cancel_left _ hG0]
  have hb : 0 < b := by
    rcases Int.lt_or_le 0 b with h | h
    · exact h
    · have := mul_mono' (a := b) (b := 0) (c := G) h (by omega)
      omega
  refine ⟨?_, hb, hG0⟩
  have e : a * (G * b) = G * a * b := by rw [Int.mul_left_comm, Int.mul_assoc]
  cases neg with
  | false => exact e
  | true => show -a * (G * b) = -(G * a) * b; rw [Int.neg_mul, Int.neg_mul, e]
theorem div_exact {x y : Int} (h : x % y = 0) : x / y * y = x := by
  have := Int.mul_ediv_add_emod x y
  rw [Int.mul_comm]; omega
set_option maxRecDepth 100000 in
set_option maxHeartbeats 4000000 in
theorem rt_lowest (neg : Bool) (A B : Option Addr) (n c m d : Nat) (l r : List Int) (w : World) (hl : DigA w A l) (hr : DigA w B r) (hn : l.length = n) (hm : r.length = m) (hc : n ≤ c) (hd : m ≤ d) (h9 : n ≤ 1000000) (h8 : m ≤ 1000000) (h0 : 0 < nv r) :
    Calls Try.prog 90 #[.agg #[.bool neg, .slice A n c, .slice B m d]] w (RetL w (sgn neg (nv l)) (nv r) n m) := by
  have hm1 : 1 ≤ m := by
    rcases Nat.eq_zero_or_pos m with h | h
    · have e := List.length_eq_zero_iff.1 (hm.trans h)
      rw [e] at h0
      exact absurd h0 (by decide)
    · exact h
  have CDV : Hid (∀ w1, Below w.heap.size w w1 → Calls Try.prog 116 #[.slice A n c, .slice B m d] w1 (RetQRE w1 (nv l / nv r) (nv l % nv r) n m)) := Lib.hid fun w1 h => nt_DivMod A B n m c d l r w1 (hl.grow h) (hr.grow h) hn hm hc hd (by omega) (by omega) (by omega)
  have HL := Lib.hid (And.intro hl (And.intro hr (And.intro hn hm)))
  have H0 := Lib.hid h0
  clear hl hr hn hm h0
  go_enter Try.func90, Try.ntmps90
  go_upto_region 1 with fail
  have hB0 : Below w.heap.size w ((w.alloc (.cells #[.bool neg, .slice A n c, .slice B m d] 111)).alloc (.cells #[.bool false, .slice none 0 0, .slice none 0 0] 28)) := ((Below.refl _ _).alloc (Nat.le_refl _) _).alloc (by simp) _
  have b1 : Box ((w.alloc (.cells #[.bool neg, .slice A n c, .slice B m d] 111)).alloc (.cells #[.bool false, .slice none 0 0, .slice none 0 0] 28)) w.heap.size [.bool neg, .slice A n c, .slice B m d] := (Box.new rfl).alloc _
  have b2 : Box ((w.alloc (.cells #[.bool neg, .slice A n c, .slice B m d] 111)).alloc (.cells #[.bool false, .slice none 0 0, .slice none 0 0] 28)) (w.heap.size + 1) [.bool false, .slice none 0 0, .slice none 0 0] := Box.new (by simp)
  generalize (w.alloc (.cells #[.bool neg, .slice A n c, .slice B m d] 111)).alloc (.cells #[.bool false, .slice none 0 0, .slice none 0 0] 28) = wA at hB0 b1 b2 ⊢
  have z2 : wA.cell? ⟨w.heap.size, 1, none⟩ = some (.slice A n c) := b1.2.1 1
  have z3 : wA.cell? ⟨w.heap.size, 2, none⟩ = some (.slice B m d) := b1.2.1 2
  have HA := Lib.hid (And.intro hB0 (And.intro b1 b2))
  clear hB0 b1 b2
  go_upto_region 2 with (go_at_call 116; (with_reducible refine (CDV.out _ HA.out.1).mono ?_); rintro e1 w1 ⟨v1, l1, v2, l2, rfl, ⟨o1, n1, m1, k1⟩, ⟨o2, n2, m2, k2⟩, hb1⟩; have HB1 := Lib.hid hb1; have H1 := Lib.hid (And.intro o1 (And.intro n1 (And.intro m1 k1))); have H2 := Lib.hid (And.intro o2 (And.intro n2 (And.intro m2 k2))); clear o1 n1 m1 k1 o2 n2 m2 k2 hb1)
  obtain ⟨A1, c1, rfl, hc1, hd1⟩ := H1.out.1.form
  obtain ⟨A2, c2, rfl, hc2, hd2⟩ := H2.out.1.form
  have bx := HA.out.2.1.keep HB1.out
  have y1 : w1.cell? ⟨w.heap.size, 0, none⟩ = some (.bool neg) := bx.2.1 0
  have y2 : w1.cell? ⟨w.heap.size, 1, none⟩ = some (.slice A n c) := bx.2.1 1
  have y3 : w1.cell? ⟨w.heap.size, 2, none⟩ = some (.slice B m d) := bx.2.1 2
  have HX := Lib.hid bx
  clear bx
  by_cases hz : l2 = []
  · subst hz
    have CT : Hid (Calls Try.prog 117 #[.agg #[.bool neg, .slice A1 l1.length c1]] w1 (RetI w1 (sgn neg (nv l1)) l1.length)) := Lib.hid (it_Trim neg A1 l1.length c1 l1 w1 hd1 rfl hc1 (by have := H1.out.2.2.2; omega))
    clear hc1 hd1 hc2 hd2
    go_wp2_with (first
      | (go_at_call 117; (with_reducible refine CT.out.mono ?_); rintro e2 w2 ⟨v3, rfl, ⟨ng, A3, c3, l3, rfl, o3, m3, k3, s3⟩, hb2⟩; have HB2 := Lib.hid hb2; have H3 := Lib.hid (And.intro o3 (And.intro k3 s3)); clear hb2 o3 m3 k3 s3)
      | (go_at_call 88; (with_reducible refine (rt_whole _ _ _ _ _).mono ?_); rintro e3 w3 ⟨g3, rfl, o4, hb3⟩; have HB3 := Lib.hid hb3; have H4 := Lib.hid o4; clear hb3 o4)
      | ((with_reducible show wpList _ _ _ (Oper.mk none (.store 28 _ _) _ _ _ _ :: _) _ _); refine wp_st rfl 28 _ _ rfl (w.heap.size + 1) 0 [_, _, _] rfl rfl size_Rat rfl (((HA.out.2.2.keep HB1.out).keep HB2.out).keep HB3.out) (Nat.le_refl _) rfl ?_; intro W9 c9 g9))
    have hba := below_then HA.out.1 HB1.out
    have hW := put_facts (g := w.heap.size + 1) (below_then (below_then hba HB2.out) HB3.out) (by omega) g9
    have hlt := Nat.lt_of_lt_of_le HA.out.2.2.1 HB1.out.size
    have h3 := ((H3.out.1.grow HB3.out).away g9 hlt).base (base' := w.heap.size) hba.size
    have h4 := (H4.out.away g9 (Nat.lt_of_lt_of_le hlt HB2.out.size)).base (base' := w.heap.size) (below_then hba HB2.out).size
    obtain ⟨dsc, hd1, hd2⟩ := row_Rat
    refine bodyPost_ret (resC rfl _ _ W9 (g := w.heap.size + 1) rfl (res_box 28 c9 dsc hd1 hd2 size_Rat)) rfl ?_
    refine ⟨_, rfl, ⟨_, 1, ⟨ng, A3, c3, l3, _, 1, [1], rfl, ⟨h3, Nat.le_trans H3.out.2.1 H1.out.2.2.2, H3.out.2.2⟩, h4, by simpa using hm1, rfl⟩, ?_, by omega⟩, hW⟩
    have e0 : nv l % nv r = 0 := by rw [← H2.out.2.1]; rfl
    rw [H1.out.2.1, ← sgn_scale, div_exact e0, Int.mul_one]
  · have hlz : l2.length ≠ 0 := fun e => hz (List.length_eq_zero_iff.1 e)
    have hlz' : (l2.length : Int) ≠ 0 := by omega
    have hk2 := H2.out.2.2.2
    have CG : Hid (Calls Try.prog 118 #[.slice B m d, .slice A2 l2.length c2] w1 (RetG w1 (nv r) (nv l2) (max m l2.length + 2))) := Lib.hid (nt_Gcd B A2 m l2.length d c2 r l2 w1 ((HL.out.2.1.grow HA.out.1).grow HB1.out) hd2 HL.out.2.2.2 rfl hd hc2 (by omega) (by omega))
    clear hc1 hd1 hc2 hd2 hz
    go_upto_region 5 with (go_at_call 118; (with_reducible refine CG.out.mono ?_); rintro e2 w2 ⟨v3, lg, rfl, o3, ⟨g1, g2⟩, m3, k3, hb2⟩; have HB2 := Lib.hid hb2; have H3 := Lib.hid (And.intro o3 (And.intro m3 k3)); have HG := Lib.hid (And.intro g1 g2); clear hb2 o3 g1 g2 m3 k3)
    obtain ⟨A3, c3, rfl, hc3, hd3⟩ := H3.out.1.form
    have bx := HX.out.keep HB2.out
    have x1 : w2.cell? ⟨w.heap.size, 0, none⟩ = some (.bool neg) := bx.2.1 0
    have x2 : w2.cell? ⟨w.heap.size, 1, none⟩ = some (.slice A n c) := bx.2.1 1
    have x3 : w2.cell? ⟨w.heap.size, 2, none⟩ = some (.slice B m d) := bx.2.1 2
    have HX2 := Lib.hid bx
    have CI : Hid (Calls Try.prog 119 #[.slice A3 lg.length c3] w2 fun e w' => e = .returned (.bool (decide (lg = [1]))) ∧ w2 = w') := Lib.hid (rt_isOne A3 lg.length c3 lg w2 hd3 rfl)
    have HLW : Hid (Below w.heap.size w w2) := Lib.hid (below_then (below_then HA.out.1 HB1.out) HB2.out)
    have HD : Hid (nv lg ∣ nv l ∧ nv lg ∣ nv r) := Lib.hid ⟨dvd_mod HG.out.1 (by rw [← H2.out.2.1]; exact HG.out.2), HG.out.1⟩
    have hk3 := H3.out.2.2
    have hlf := low_facts H0.out HD.out.1 HD.out.2 (nv_low H3.out.1.dig) neg
    have HF := Lib.hid hlf
    clear bx y1 y2 y3 z2 z3 hlf
    by_cases hg : lg = [1]
    · rw [decide_eq_true hg] at CI
      have CT : Hid (∀ w3, Below w2.heap.size w2 w3 → Calls Try.prog 117 #[.agg #[.bool neg, .slice A n c]] w3 (RetI w3 (sgn neg (nv l)) n)) := Lib.hid fun w3 h => it_Trim neg A n c l w3 ((HL.out.1.grow HLW.out).grow h) HL.out.2.2.1 hc h9
      have CU : Hid (∀ w3, Below w2.heap.size w2 w3 → Calls Try.prog 120 #[.slice B m d] w3 (RetN w3 (nv r) m)) := Lib.hid fun w3 h => nt_Trim B m d r w3 ((HL.out.2.1.grow HLW.out).grow h) HL.out.2.2.2 hd (by omega)
      clear hc3 hd3 hg
      go_upto_region 6 with (go_at_call 119; (with_reducible refine CI.out.mono ?_); rintro e3 w3 ⟨rfl, rfl⟩)
      refine wp_region_grow2 (fun i => Nat.blt i 7) (fun _ => false) (fun w9 => Below w2.heap.size w2 w9) (fun a b => Below a.heap.size a b) (dQ w2.heap.size [.v (.pointer (some ⟨w.heap.size, 0, none⟩)), .v (.agg #[.bool neg, .slice A n c]), .int (sgn neg (nv l)) n, .v (.pointer (some ⟨w.heap.size, 2, none⟩)), .v (.slice B m d), .num (nv r) m, .rat (sgn neg (nv l)) (nv r) n m]) (by kernel_rfl) (by kernel_rfl) (Below.refl _ _).drew (fun a b h1 h2 => ⟨below_then h1 h2, fun i _ v => dQ_keep h2 i v⟩) (fun _ _ => Below.refl _ _) ?_ (fun _ _ _ _ h => by cases h) ?_
      · refine ⟨?_, ?_, ?_, ?_, ?_, ?_, ?_, trivial⟩
        all_goals
          intro vs w9 hp hF
          have HP := Lib.hid hp
          have x1 : w9.cell? ⟨w.heap.size, 0, none⟩ = some (.bool neg) := (HX2.out.keep hp).2.1 0
          have x2 : w9.cell? ⟨w.heap.size, 1, none⟩ = some (.slice A n c) := (HX2.out.keep hp).2.1 1
          have x3 : w9.cell? ⟨w.heap.size, 2, none⟩ = some (.slice B m d) := (HX2.out.keep hp).2.1 2
          clear hp
          simp [depsB, Region.binds, dQ] at hF
          simp [stL, depsB, Region.binds, Act.put, hF]
        · (go_wp2_with fail; exact ⟨rfl, Below.refl _ _⟩)
        · (obtain ⟨dI, hI1, hI2⟩ := row_Int; refine wp_ld rfl 26 _ rfl (w.heap.size) 0 rfl (((HX2.out.keep HP.out))) [.bool neg, .slice A n c] (fun j v h => by rcases j with _ | _ | _ | j <;> simp at h ⊢ <;> exact h) dI hI1 hI2 size_Int ?_; go_wp2_with fail; exact ⟨rfl, Below.refl _ _⟩)
        · go_wp2_with (go_at_call 117; (with_reducible refine (CT.out _ HP.out).mono ?_); rintro e1 w1' ⟨v1, rfl, o1, hb1⟩)
          exact IntO.base o1 HP.out.size
        · (go_wp2_with fail; exact ⟨rfl, Below.refl _ _⟩)
        · (go_wp2_with fail; exact ⟨rfl, Below.refl _ _⟩)
        · go_wp2_with (go_at_call 120; (with_reducible refine (CU.out _ HP.out).mono ?_); intro e1 w1' h1; obtain ⟨v1, rfl, o1, hb1⟩ := h1.num (b := w2.heap.size) HP.out.size)
          exact o1
        · obtain ⟨⟨ng', A', c', l', e4, o4, n4, m4, k4⟩, A5, c5, l5, e5, o5, n5, m5, k5⟩ := hF
          simp only [e4, e5]
          go_wp2_with fail
          exact ⟨⟨ng', A', c', l', A5, c5, l5, rfl, ⟨o4, m4, k4⟩, o5, k5, n5⟩, Below.refl _ _⟩
      intro vs w9 hp hF
      obtain ⟨ng', A', c', l', A5, c5, l5, e5, o5⟩ : RatO w2.heap.size w9 (vs 6) (sgn neg (nv l)) (nv r) n m := hF 6 (by decide) rfl
      have o6 : RatO w2.heap.size w9 (.agg #[.bool ng', .slice A' l'.length c', .slice A5 l5.length c5]) (sgn neg (nv l)) (nv r) n m := ⟨ng', A', c', l', A5, c5, l5, rfl, o5⟩
      have hba := below_then HA.out.1 HB1.out
      have b9 := ((HA.out.2.2.keep HB1.out).keep HB2.out).keep hp
      have hb9 := below_then (below_then hba HB2.out) hp
      clear hF o5
      show wpList Try.prog _ _ [_] _ _
      simp [stL, Act.put, e5]
      refine wp_st rfl 28 _ _ rfl (w.heap.size + 1) 0 [_, _, _] rfl rfl size_Rat rfl b9 (Nat.le_refl _) rfl ?_
      intro W9 c9 g9
      have hW := put_facts (g := w.heap.size + 1) hb9 (by omega) g9
      have HO := Lib.hid ((o6.away g9 (Nat.lt_of_lt_of_le HA.out.2.2.1 (below_then HB1.out HB2.out).size)).base (b' := w.heap.size) (below_then hba HB2.out).size)
      have HC := Lib.hid (And.intro c9 hW)
      clear c9 g9 hW o6 e5 b9 hb9 hp hba
      go_wp2_with fail
      obtain ⟨dsc, hd1, hd2⟩ := row_Rat
      refine bodyPost_ret (resC rfl _ _ W9 (g := w.heap.size + 1) rfl (res_box 28 HC.out.1 dsc hd1 hd2 size_Rat)) rfl ?_
      exact ⟨_, rfl, ⟨_, _, HO.out, rfl, H0.out⟩, HC.out.2⟩
    · rw [decide_eq_false hg] at CI
      have CA : Hid (∀ w3, Below w2.heap.size w2 w3 → Calls Try.prog 116 #[.slice A n c, .slice A3 lg.length c3] w3 (RetQRE w3 (nv l / nv lg) (nv l % nv lg) n lg.length)) := Lib.hid fun w3 h => nt_DivMod A A3 n lg.length c c3 l lg w3 ((HL.out.1.grow HLW.out).grow h) (hd3.grow h) HL.out.2.2.1 rfl hc hc3 (by omega) (by omega) HF.out.2.2
      have CB : Hid (∀ w3, Below w2.heap.size w2 w3 → Calls Try.prog 116 #[.slice B m d, .slice A3 lg.length c3] w3 (RetQRE w3 (nv r / nv lg) (nv r % nv lg) m lg.length)) := Lib.hid fun w3 h => nt_DivMod B A3 m lg.length d c3 r lg w3 ((HL.out.2.1.grow HLW.out).grow h) (hd3.grow h) HL.out.2.2.2 rfl hd hc3 (by omega) (by omega) HF.out.2.2
      clear hc3 hd3 hg
      have HZ : Hid (Below w2.heap.size w2 w2) := Lib.hid (Below.refl _ _)
      go_wp2_with (first
        | (go_at_call 119; (with_reducible refine CI.out.mono ?_); rintro e3 w3 ⟨rfl, rfl⟩)
        | (go_at_call 116; first
            | ((with_reducible refine (CA.out _ HZ.out).mono ?_); rintro e4 w4 ⟨v4, l4, v4', l4', rfl, ⟨oa, na, ma, ka⟩, -, hbb⟩; obtain ⟨A4, c4, rfl, -, -⟩ := oa.form; have HB4 := Lib.hid hbb; have HVA := Lib.hid (And.intro oa (And.intro na ka)); have u3 : w4.cell? ⟨w.heap.size, 2, none⟩ = some (.slice B m d) := (HX2.out.keep hbb).2.1 2; clear oa na ma ka hbb)
            | ((with_reducible refine (CB.out _ HB4.out).mono ?_); rintro e5 w5 ⟨v5, l5, v5', l5', rfl, ⟨oa, na, ma, ka⟩, -, hbb⟩; obtain ⟨A5, c5, rfl, -, -⟩ := oa.form; have HB5 := Lib.hid hbb; have HVC := Lib.hid (And.intro oa (And.intro na ka)); have t1 : w5.cell? ⟨w.heap.size, 0, none⟩ = some (.bool neg) := ((HX2.out.keep HB4.out).keep hbb).2.1 0; clear oa na ma ka hbb))
        | ((with_reducible show wpList _ _ _ (Oper.mk none (.store 28 _ _) _ _ _ _ :: _) _ _); refine wp_st rfl 28 _ _ rfl (w.heap.size + 1) 0 [_, _, _] rfl rfl size_Rat rfl ((((HA.out.2.2.keep HB1.out).keep HB2.out).keep HB4.out).keep HB5.out) (Nat.le_refl _) rfl ?_; intro W9 c9 g9))
      have hba := below_then HLW.out HB4.out
      have hW := put_facts (g := w.heap.size + 1) (below_then hba HB5.out) (by omega) g9
      have hlt := Nat.lt_of_lt_of_le HA.out.2.2.1 (below_then HB1.out HB2.out).size
      have h3 := ((HVA.out.1.grow HB5.out).away g9 hlt).base (base' := w.heap.size) HLW.out.size
      have h4 := (HVC.out.1.away g9 (Nat.lt_of_lt_of_le hlt HB4.out.size)).base (base' := w.heap.size) hba.size
      obtain ⟨dsc, hd1, hd2⟩ := row_Rat
      refine bodyPost_ret (resC rfl _ _ W9 (g := w.heap.size + 1) rfl (res_box 28 c9 dsc hd1 hd2 size_Rat)) rfl ?_
      refine ⟨_, rfl, ⟨_, _, ⟨neg, A4, c4, l4, A5, c5, l5, rfl, ⟨h3, HVA.out.2.2, rfl⟩, h4, HVC.out.2.2, rfl⟩, ?_, ?_⟩, hW⟩
      · rw [HVA.out.2.1, HVC.out.2.1]; exact HF.out.1
      · rw [HVC.out.2.1]; exact HF.out.2.1
end Go.Proofs.Ytmdfgidejdiiiaa
end
section
namespace Go.Proofs.Ytmdfgidejdiiiaa
open Go.RowKit
section
variable {P : Program} {md : Region.Mode}
def Prior4 (F : Nat → Value → World → Prop) (G : Nat → Value → World → World → Prop) (H : World → World → Prop) (i j : Nat) (u v : Value) (w : World) : Prop := ∃ w1 w2, F i u w1 ∧ G j v w1 w2 ∧ H w2 w
end
end Go.Proofs.Ytmdfgidejdiiiaa
end
section
namespace Go.Proofs.Ytmdfgidejdiiiaa
open Go.RowKit
section
variable {P : Program} {md : Region.Mode}
def steps7 (P : Program) (md : Region.Mode) (ops : List Oper) (fb : Nat → Bool) (a : Act) (C : World → Prop) (G : Nat → Value → World → World → Prop) (F : Nat → Value → World → Prop) : Nat → List Oper → Prop
  | _, [] => True
  | k, o :: l => match fb k with
    | true => (∀ vs w, C w → (∀ i, depsB md o i = true → F i (vs i) w) → wpList P #[o] (fun e c w' => e = .normal ∧ ∃ v, c = (stL ops 0 (depsB md o) vs a).put o.dst v ∧ (F k v w' ∧ G k v w w')) [o] (stL ops 0 (depsB md o) vs a) w) ∧ steps7 P md ops fb a C G F (k + 1) l
    | false => steps7 P md ops fb a C G F (k + 1) l
theorem steps7_at {ops : List Oper} {fb : Nat → Bool} {a : Act} {C : World → Prop} {G : Nat → Value → World → World → Prop} {F : Nat → Value → World → Prop} : ∀ (l : List Oper) (k j : Nat) (o : Oper), steps7 P md ops fb a C G F k l → l[j]? = some o → fb (k + j) = true →
    ∀ vs w, C w → (∀ i, depsB md o i = true → F i (vs i) w) → wpList P #[o] (fun e c w' => e = .normal ∧ ∃ v, c = (stL ops 0 (depsB md o) vs a).put o.dst v ∧ (F (k + j) v w' ∧ G (k + j) v w w')) [o] (stL ops 0 (depsB md o) vs a) w
  | [], _, _, _, _, h, _ => by simp at h
  | o :: l, k, 0, o', hs, h, hf => by
    simp only [List.getElem?_cons_zero, Option.some.injEq] at h
    subst h
    simp only [steps7] at hs
    rw [Nat.add_zero] at hf
    rw [hf] at hs
    exact hs.1
  | o :: l, k, j + 1, o', hs, h, hf => by
    rw [show k + (j + 1) = k + 1 + j by omega] at hf ⊢
    have hs' : steps7 P md ops fb a C G F (k + 1) l := by
      simp only [steps7] at hs
      cases hk : fb k with
      | true => rw [hk] at hs; exact hs.2
      | false => rw [hk] at hs; exact hs
    exact steps7_at l (k + 1) j o' hs' (by simpa using h) hf
theorem wpAny_grow7 {fb ls : Nat → Bool} {l : List Oper} {a : Act} {Q : Exit → Act → World → Prop} {C : World → Prop} {G : Nat → Value → World → World → Prop} {H : World → World → Prop} {F : Nat → Value → World → Prop} (hQ : ∀ c a w, ¬ Q (.panic c) a w) (hB : grow2B md fb ls a.tmps.size l = true)
    (hst : ∀ j x w w', C w → G j x w w' → C w' ∧ (∀ i, fb i = true → ∀ v, F i v w → F i v w') ∧ H w' w' ∧ ∀ w0, H w0 w → H w0 w') (hrf : ∀ j v w, ls j = true → C w → G j v w w) (hs : steps7 P md l fb a C G F 0 l)
    (hlag : ∀ j o, l[j]? = some o → fb j = true → ls j = true → ∀ vs w, C w → (∀ i, depsB md o i = true → F i (vs i) w) → ∃ v, (∀ w', (execOp (stL l 0 (depsB md o) vs a).eval o).run P w' = .ok (.value v) w') ∧ F j v w)
    (hf : ∀ vs w', C w' → (∀ i, i < l.length → fb i = true → F i (vs i) w') → (∀ i j, i < l.length → j < l.length → fb i = true → fb j = true → i ≠ j → Prior4 F G H i j (vs i) (vs j) w' ∨ Prior4 F G H j i (vs j) (vs i) w') → wpList P l.toArray Q (((List.range l.length).filter fun i => !fb i).filterMap fun i => l[i]?) (stL l 0 fb vs a) w') :
    ∀ (fuel : Nat) (listed : Array Bool) (w : World) (vs : Nat → Value), (List.range l.length).countP (fun i => !listed.getD i false) = fuel → listed.size = l.length → (∀ i, i < l.length → fb i = false → listed.getD i false = false) →
      (∀ i o, l[i]? = some o → listed.getD i false = true → ∀ e ∈ o.after, Region.binds md e = true → listed.getD e.on false = true) → C w →
      (∀ i, listed.getD i false = true → F i (vs i) w) → (∀ i j, i ≠ j → listed.getD i false = true → listed.getD j false = true → Prior4 F G H i j (vs i) (vs j) w ∨ Prior4 F G H j i (vs j) (vs i) w) → wpAny P md l.toArray Q fuel listed (stL l 0 (fun i => listed.getD i false) vs a) w := by
  have hsel : ∀ (j : Nat) (o : Oper) cs b, l.toArray[j]? = some o → o.op ≠ .select cs b := by
    unfold grow2B at hB
    rw [Bool.and_eq_true] at hB
    exact Region.noSelect_spec hB.1
  -- all that come first are done
  have full : ∀ (fuel : Nat) (listed : Array Bool) (w : World) (vs : Nat → Value), (List.range l.length).countP (fun i => !listed.getD i false) = fuel → listed.size = l.length → (∀ i, i < l.length → fb i = false → listed.getD i false = false) →
      (∀ i o, l[i]? = some o → listed.getD i false = true → ∀ e ∈ o.after, Region.binds md e = true → listed.getD e.on false = true) → C w →
      (∀ i, listed.getD i false = true → F i (vs i) w) → (∀ i j, i ≠ j → listed.getD i false = true → listed.getD j false = true → Prior4 F G H i j (vs i) (vs j) w ∨ Prior4 F G H j i (vs j) (vs i) w) → (∀ i, i < l.length → fb i = true → listed.getD i false = true) → wpAny P md l.toArray Q fuel listed (stL l 0 (fun i => listed.getD i false) vs a) w := by
    intro fuel listed w vs hc hsz ht hcl hC hF hP hfull
    have hl : ∀ i, i < l.length → listed.getD i false = fb i := fun i hi => by
      cases h : fb i with
      | true => exact hfull i hi h
      | false => exact ht i hi h
    have hfuel : ((List.range l.length).filter fun i => !fb i).length = fuel := by
      rw [← hc, ← List.countP_eq_length_filter]
      exact List.countP_congr fun i hi => by rw [hl i (List.mem_range.1 hi)]
    rw [← hfuel]
    have hsort : ((List.range l.length).filter fun i => !fb i).Pairwise (· < ·) := List.Pairwise.filter _ List.pairwise_lt_range
    refine wpAny_tail2 hB _ listed _ w hsort (fun r hr => ?_) hsz (fun i hi => ?_) hcl ?_
    · rw [List.mem_filter, List.mem_range] at hr
      exact ⟨by simpa using hr.2, hr.1⟩
    · rw [hl i hi]
      have : ((List.range l.length).filter fun i => !fb i).contains i = !fb i := by
        rw [List.contains_eq_mem]
        cases h : fb i <;> simp [List.mem_filter, h, hi]
      rw [this, Bool.not_not]
    · have := hf vs w hC (fun i hi hfi => hF i (hfull i hi hfi)) (fun i j hi hj hfi hfj hn => hP i j hn (hfull i hi hfi) (hfull j hj hfj))
      rw [stL_congr l 0 _ fb vs vs a (fun i _ hi => ⟨hl i (by omega), fun _ => rfl⟩)]
      exact this
  intro fuel
  induction fuel with
  | zero =>
    intro listed w vs hc hsz ht hcl hC hF hP
    have hall := cnt_zero hc
    exact full 0 listed w vs hc hsz ht hcl hC hF hP (fun i hi _ => by simpa using hall i hi)
  | succ fuel ih =>
    intro listed w vs hc hsz ht hcl hC hF hP
    by_cases hfull : ∀ i, i < l.length → fb i = true → listed.getD i false = true
    · exact full (fuel + 1) listed w vs hc hsz ht hcl hC hF hP hfull
    · obtain ⟨m, hmN, hmun, hmin⟩ : ∃ m, (m < l.length ∧ fb m = true) ∧ listed.getD m false = false ∧ ∀ i, i < m → fb i = true → listed.getD i false = true := by
        have : ∃ m, (m < l.length ∧ fb m = true) ∧ listed.getD m false = false := by
          rcases Classical.not_forall.1 hfull with ⟨m, hm⟩
          rw [Classical.not_imp, Classical.not_imp] at hm
          exact ⟨m, ⟨hm.1, hm.2.1⟩, by simpa using hm.2.2⟩
        obtain ⟨m, h1, h2⟩ := this
        clear hfull
        induction m using Nat.strongRecOn with
        | _ m ihm =>
          by_cases h : ∃ i, i < m ∧ fb i = true ∧ listed.getD i false = false
          · obtain ⟨i, hi, hfi, hi2⟩ := h
            exact ihm i hi ⟨by omega, hfi⟩ hi2
          · refine ⟨m, h1, h2, fun i hi hfi => ?_⟩
            cases hv : listed.getD i false with
            | true => rfl
            | false => exact absurd ⟨i, hi, hfi, hv⟩ h
      have hgt : ∀ i, i < l.length → ∀ d, listed.getD i d = listed.getD i false := fun i hi d => by
        rw [Array.getD_eq_getD_getElem?, Array.getD_eq_getD_getElem?, Array.getElem?_eq_getElem (by omega)]
        rfl
      obtain ⟨om, hom⟩ : ∃ o, l[m]? = some o := ⟨_, List.getElem?_eq_getElem hmN.1⟩
      have hmdeps : ∀ e ∈ om.after, Region.binds md e = true → listed.getD e.on false = true := fun e he hb => by
        have := (grow2B_spec hB hom).2.2.1 e he hb
        exact hmin e.on this.1 (this.2 hmN.2)
      have hready : m ∈ Region.ready md l.toArray listed := by
        rw [mem_ready]
        exact ⟨by rw [hgt m hmN.1]; exact hmun, om, by simpa using hom, hmdeps⟩
      have go : ∀ (j : Nat) (o : Oper) v w', fb j = true → l[j]? = some o → listed.getD j false = false → (∀ e ∈ o.after, Region.binds md e = true → listed.getD e.on false = true) → F j v w' → G j v w w' → wpAny P md l.toArray Q fuel (listed.setIfInBounds j true) ((stL l 0 (fun i => listed.getD i false) vs a).put o.dst v) w' := by
        intro j o v w' hjN ho h1 h2 hFv hG
        obtain ⟨_, _, _, hall⟩ := grow2B_spec hB ho
        have hlt := (List.getElem?_eq_some_iff.1 ho).1
        obtain ⟨hC', hst', hrfl, htr⟩ := hst j v w w' hC hG
        have hadd := stL_add l 0 j (fun i => listed.getD i false) vs a o v ho (by rw [Nat.zero_add]; exact h1) (fun i o' hi hne d hd => (hall i o' hi).1 (fun e => hne e.symm) d hd)
        simp only [Nat.zero_add] at hadd
        have hget : ∀ i, (listed.setIfInBounds j true).getD i false = (listed.getD i false || i == j) := fun i => by
          by_cases e : j = i
          · subst e
            rw [Array.getD_eq_getD_getElem?, Array.getElem?_setIfInBounds_self_of_lt (by omega)]
            simp
          · rw [getD_set_ne false e]
            have : (i == j) = false := by simp; exact fun h => e h.symm
            rw [this, Bool.or_false]
        rw [← hadd, ← stL_congr l 0 (fun i => (listed.setIfInBounds j true).getD i false) _ (fun i => if i = j then v else vs i) _ a (fun i _ _ => ⟨hget i, fun _ => rfl⟩)]
        refine ih (listed.setIfInBounds j true) w' (fun i => if i = j then v else vs i) ?_ (by simpa using hsz) (fun i hi hNi => ?_) (fun i o' ho' hi e he hb => ?_) hC' (fun i hl => ?_) (fun i i' hne hl hl' => ?_)
        · have := cnt_set l.length (fun i => !listed.getD i false) (fun i => !(listed.setIfInBounds j true).getD i false) j hlt (by rw [h1]; rfl) (by rw [hget]; simp) (fun i hi => by rw [hget]; simp [hi])
          omega
        · rw [hget, ht i hi hNi]
          have : (i == j) = false := by
            simp
            intro e
            subst e
            rw [hjN] at hNi; cases hNi
          rw [this]; rfl
        · rw [hget] at hi ⊢
          rcases Bool.or_eq_true_iff.1 hi with hi | hi
          · rw [hcl i o' ho' hi e he hb]; rfl
          · have : i = j := by simpa using hi
            subst this
            rw [ho] at ho'
            injection ho' with ho'
            subst ho'
            rw [h2 e he hb]; rfl
        · rw [hget] at hl
          by_cases e : i = j
          · subst e; simpa using hFv
          · rw [if_neg e]
            have : (i == j) = false := by simp [e]
            rw [this, Bool.or_false] at hl
            refine hst' i ?_ _ (hF i hl)
            cases hfi : fb i with
            | true => rfl
            | false =>
              have hil : i < l.length := by
                rcases Nat.lt_or_ge i listed.size with h | h
                · omega
                · rw [Array.getD_eq_getD_getElem?, Array.getElem?_eq_none h] at hl; simp at hl
              rw [ht i hil hfi] at hl; cases hl
        · rw [hget] at hl hl'
          by_cases e : i = j
          · subst e
            have e' : (i' == i) = false := by simp; exact fun h => hne h.symm
            rw [e', Bool.or_false] at hl'
            have e2 : ¬ i' = i := fun h => hne h.symm
            simp only [if_true, e2, if_false]
            exact .inr ⟨w, w', hF i' hl', hG, hrfl⟩
          · have e1 : (i == j) = false := by simp; exact e
            rw [e1, Bool.or_false] at hl
            by_cases e' : i' = j
            · subst e'
              simp only [if_true, e, if_false]
              exact .inl ⟨w, w', hF i hl, hG, hrfl⟩
            · have e2 : (i' == j) = false := by simp; exact e'
              rw [e2, Bool.or_false] at hl'
              simp only [e, e', if_false]
              exact (hP i i' hne hl hl').imp (fun ⟨x, y, f, g, h⟩ => ⟨x, y, f, g, htr y h⟩) (fun ⟨x, y, f, g, h⟩ => ⟨x, y, f, g, htr y h⟩)
      have dl : ∀ o, (∀ e ∈ o.after, Region.binds md e = true → listed.getD e.on false = true) → ∀ i, depsB md o i = true → listed.getD i false = true := fun o h2 i hi => by
        obtain ⟨e, he, hb, rfl⟩ := depsB_mem hi
        exact h2 e he hb
      have alike : ∀ (j : Nat) (o : Oper), l[j]? = some o → (∀ e ∈ o.after, Region.binds md e = true → listed.getD e.on false = true) → Alike2 o (stL l 0 (fun i => listed.getD i false) vs a) (stL l 0 (depsB md o) vs a) := by
        intro j o ho h2
        obtain ⟨_, _, hdep, hall⟩ := grow2B_spec hB ho
        refine stL_alike l 0 _ _ vs a a (fun i o' hi hne d hd => ?_) ⟨rfl, fun _ _ => rfl⟩
        rw [Nat.zero_add] at hne
        refine (hall i o' hi).2.1 ?_ d hd
        cases hdp : depsB md o i with
        | false => rfl
        | true => rw [dl o h2 i hdp, hdp] at hne; exact absurd rfl hne
      by_cases hlg : ∀ i, i < l.length → fb i = true → listed.getD i false = false → ls i = true
      · obtain ⟨hg, hdst, hdep, hall⟩ := grow2B_spec hB hom
        have hal := alike m om hom hmdeps
        have hsm : ∀ cs b, om.op ≠ .select cs b := fun cs b => hsel m om cs b (by simpa using hom)
        obtain ⟨v, hrun, hFv⟩ := hlag m om hom hmN.2 (hlg m hmN.1 hmN.2 hmun) vs w hC (fun i hi => hF i (dl om hmdeps i hi))
        have hrun2 : ∀ w', (execOp (stL l 0 (fun i => listed.getD i false) vs a).eval om).run P w' = .ok (.value v) w' := fun w' => by
          rw [execOp_congr om hsm (fun x hx => hal.2 x hx)]; exact hrun w'
        refine wpAny_first (i := m) (oi := om) (v := v) (by simpa using hom) hsel (fun c a w h => absurd h (hQ _ _ _)) fuel listed _ w (fun j oj hj hne hun hno => ?_) hready (.inl ⟨by simp [Region.wanted, hg], hrun2⟩) ?_
        · have hj' : l[j]? = some oj := by simpa using hj
          have hjl := (List.getElem?_eq_some_iff.1 hj').1
          obtain ⟨hgj, _, _, hallj⟩ := grow2B_spec hB hj'
          have hjm : depsB md oj m = false := by
            cases hdp : depsB md oj m with
            | false => rfl
            | true =>
              obtain ⟨e, he, hb, h⟩ := depsB_mem hdp
              exact absurd h (hno e he hb)
          have hmj : depsB md om j = false := by
            cases hdp : depsB md om j with
            | false => rfl
            | true =>
              obtain ⟨e, he, hb, h⟩ := depsB_mem hdp
              have h3 := hmdeps e he hb
              rw [h, ← hgt j hjl true, hun] at h3; cases h3
          have looks : ∀ (o : Oper) (d : Tmp), o.guard = none → .tmp d ∉ o.op.operands → d ∉ o.looksAt l.toArray := fun o d hg hn hm => by
            unfold Oper.looksAt at hm
            rw [hg] at hm
            simp only [List.append_nil, List.mem_filterMap] at hm
            obtain ⟨x, hx, hx2⟩ := hm
            cases x with
            | tmp t =>
              simp at hx2
              subst hx2
              exact hn (by simpa using hx)
            | _ => simp at hx2
          unfold Oper.apart
          rw [Bool.and_eq_true]
          refine ⟨?_, ?_⟩
          · cases hd : om.dst with
            | none => rfl
            | some d =>
              simp only [Bool.and_eq_true, Bool.not_eq_true']
              refine ⟨?_, ?_⟩
              · have := looks oj d hgj ((hallj m om hom).2.1 hjm d hd)
                simpa using this
              · have := (hall j oj hj').1 (fun e => hne e.symm) d hd
                simpa using this
          · cases hd : oj.dst with
            | none => rfl
            | some d =>
              have := looks om d hg ((hall j oj hj').2.1 hmj d hd)
              simpa using this
        · exact go m om v w hmN.2 hom hmun hmdeps hFv (hrf m v w (hlg m hmN.1 hmN.2 hmun) hC)
      · have hlag2 : ∃ i, i < l.length ∧ fb i = true ∧ listed.getD i false = false ∧ ls i = false := Classical.byContradiction fun hc => hlg fun i h1 h2 h3 => by
          cases h4 : ls i with
          | true => rfl
          | false => exact absurd ⟨i, h1, h2, h3, h4⟩ hc
        obtain ⟨i0, hi0, hf0, hun0, hl0⟩ := hlag2
        obtain ⟨o0, ho0⟩ : ∃ o, l[i0]? = some o := ⟨_, List.getElem?_eq_getElem hi0⟩
        refine ⟨fun h0 => absurd hready (by rw [h0]; simp), fun j hj => ?_⟩
        obtain ⟨h1, o, ho', h2⟩ := mem_ready.1 hj
        have ho : l[j]? = some o := by simpa using ho'
        have hlt := (List.getElem?_eq_some_iff.1 ho).1
        rw [hgt j hlt] at h1
        obtain ⟨hg, hdst, hdep, hall⟩ := grow2B_spec hB ho
        have hjN : fb j = true := by
          cases hfj : fb j with
          | true => rfl
          | false =>
            rcases ((hall i0 o0 ho0).2.2 hfj).1 hf0 with h3 | h3
            · rw [hl0] at h3; cases h3
            · have := anc_listed hcl _ _ _ _ ho h2 h3
              rw [hun0] at this; cases this
        have hstep := steps7_at l 0 j o hs ho (by rw [Nat.zero_add]; exact hjN) vs w hC (fun i hi => hF i (dl o h2 i hi))
        rw [Nat.zero_add] at hstep
        have hw : Region.wanted o (yielded l.toArray (stL l 0 (fun i => listed.getD i false) vs a).tmps) = true := by simp [Region.wanted, hg]
        unfold wpOp
        simp only [ho', hw, if_true]
        left
        exact wp_move_frame hg (fun cs b => hsel j o cs b ho') (alike j o ho h2) (fun d hd => by rw [stL_size]; exact hdst d hd) hstep (fun v w' h => go j o v w' hjN ho h1 h2 h.1 h.2)
end
theorem wp_region_grow7 {P : Program} {id : Nat} {Q : Exit → Act → World → Prop} {a : Act} {w : World} {l : List Oper} (fb ls : Nat → Bool) (C : World → Prop) (G : Nat → Value → World → World → Prop) (H : World → World → Prop) (F : Nat → Value → World → Prop) (hm : P.follows .mixedOrders = true) (hB : grow2B .any fb ls a.tmps.size l = true)
    (hC : C w.drew) (hst : ∀ j x w w', C w → G j x w w' → C w' ∧ (∀ i, fb i = true → ∀ v, F i v w → F i v w') ∧ H w' w' ∧ ∀ w0, H w0 w → H w0 w') (hrf : ∀ j v w, ls j = true → C w → G j v w w) (hs : steps7 P .any l fb a C G F 0 l)
    (hlag : ∀ j o, l[j]? = some o → fb j = true → ls j = true → ∀ vs w, C w → (∀ i, depsB .any o i = true → F i (vs i) w) → ∃ v, (∀ w', (execOp (stL l 0 (depsB .any o) vs a).eval o).run P w' = .ok (.value v) w') ∧ F j v w)
    (hf : ∀ vs w', C w' → (∀ i, i < l.length → fb i = true → F i (vs i) w') → (∀ i j, i < l.length → j < l.length → fb i = true → fb j = true → i ≠ j → Prior4 F G H i j (vs i) (vs j) w' ∨ Prior4 F G H j i (vs j) (vs i) w') → wpList P l.toArray (fun e b w => e = .normal ∧ Q .normal b w) (((List.range l.length).filter fun i => !fb i).filterMap fun i => l[i]?) (stL l 0 fb vs a) w') : (Code.region id l.toArray true).wp P Q a w := by
  refine Code.wp_mono (Q := fun e b w => e = .normal ∧ Q .normal b w) (fun e b w h => by obtain ⟨rfl, h⟩ := h; exact h) ?_
  refine wp_region_any hm ?_
  have hn : ∀ i, (Array.replicate l.toArray.size false).getD i false = false := fun i => by
    simp [Array.getD_eq_getD_getElem?, Array.getElem?_replicate]
    split <;> rfl
  have h0 : stL l 0 (fun i => (Array.replicate l.toArray.size false).getD i false) (fun _ => undef) a = a := by
    rw [stL_congr l 0 _ (fun _ => false) (fun _ => undef) (fun _ => undef) a (fun i _ hi => ⟨hn i, fun _ => rfl⟩)]
    exact stL_none _ _ _ _
  have := wpAny_grow7 (Q := fun e b w => e = .normal ∧ Q .normal b w) (C := C) (G := G) (H := H) (F := F) (fun c a w h => absurd h.1 (by simp)) hB hst hrf hs hlag hf l.toArray.size (Array.replicate l.toArray.size false) w.drew (fun _ => undef) (by
    rw [List.countP_eq_length.2 (fun i hi => by rw [hn]; rfl)]
    simp) (by simp) (fun i hi _ => hn i) (fun i o _ h => by rw [hn] at h; cases h) hC (fun i h => by rw [hn] at h; cases h) (fun i j _ h => by rw [hn] at h; cases h)
  rw [h0] at this
  exact this
end Go.Proofs.Ytmdfgidejdiiiaa
end
