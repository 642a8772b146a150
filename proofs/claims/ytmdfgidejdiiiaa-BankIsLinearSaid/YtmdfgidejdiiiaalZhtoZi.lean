/- Several texts in one: Zh Zb Zi. -/
import Derived.Test.YtmdfgidejdiiiaalZetoZg
import Derived.Test.YtmdfgidejdiiiaalPltoZa
set_option linter.unusedVariables false
set_option linter.unusedSimpArgs false
section
namespace Go.Proofs.Ytmdfgidejdiiiaa
open Go.RowKit
theorem wrapU (v : Int) : IntKind.u64.wrap v = v % 18446744073709551616 := rfl
theorem sub_wrap {x c y t : Int} (hx : 0 ≤ x ∧ x < 4294967296) (hc : 0 ≤ c ∧ c ≤ 1) (hy : 0 ≤ y ∧ y < 4294967296) (ht : IntKind.u64.wrap (IntKind.u64.wrap (x - c) - y) = t) :
    (0 ≤ t ∧ t < 18446744073709551616) ∧ t % 4294967296 = x - y - c + 4294967296 * (t / 9223372036854775808) ∧ 0 ≤ t / 9223372036854775808 ∧ t / 9223372036854775808 ≤ 1 := by
  rw [wrapU, wrapU] at ht
  omega
theorem sub_one {X Y T : List Int} {k : Nat} {x y c s c' : Int} (hk : T.length = k) (hX : X[k]? = some x) (hY : nv (Y.take (k + 1)) = nv (Y.take k) + bp k * y) (hT : nv T = nv (X.take k) - nv (Y.take k) + bp k * c) (hs : s = x - y - c + 4294967296 * c') :
    nv (T ++ [s]) = nv (X.take (k + 1)) - nv (Y.take (k + 1)) + bp (k + 1) * c' := by
  subst hk
  rw [nv_app, nv_one, nv_take hX, hY, bp_succ]
  have e : 4294967296 * bp T.length * c' = bp T.length * (4294967296 * c') := by rw [Int.mul_comm 4294967296, Int.mul_assoc]
  have h1 : bp T.length * s = bp T.length * (x - y - c + 4294967296 * c') := by rw [hs]
  rw [Int.mul_add, Int.mul_sub, Int.mul_sub] at h1
  rw [e]
  omega
set_option maxRecDepth 100000 in
theorem nt_Sub (A B : Option Addr) (n m c d : Nat) (a b : List Int) (w : World) (ha : DigA w A a) (hb : DigA w B b) (hn : a.length = n) (hm : b.length = m) (hc : n ≤ c) (hd : m ≤ d) (h9 : n ≤ 10000000) (h8 : m ≤ 10000000) :
    Calls Try.prog 122 #[.slice A n c, .slice B m d] w (RetN w (if nv a ≤ nv b then 0 else nv a - nv b) n) := by
  have CQ : Hid (Calls Try.prog 95 #[.slice A n c, .slice B m d] w fun e w' => e = .returned (.int .i64 (cmpI (nv a) (nv b))) ∧ Below w.heap.size w w') := nt_Compare A B n m c d a b w ha hb hn hm hc hd (by omega) (by omega)
  have CA : Hid (∀ w1, Below w.heap.size w w1 → Calls Try.prog 115 #[.slice A n c] w1 (RetCut w1 A c a)) := fun w1 h => nt_cut A n c a w1 (ha.grow h) hn hc (by omega)
  have CB : Hid (∀ w1, Below w.heap.size w w1 → Calls Try.prog 115 #[.slice B m d] w1 (RetCut w1 B d b)) := fun w1 h => nt_cut B m d b w1 (hb.grow h) hm hd (by omega)
  have HA := Lib.hid ha
  have HB := Lib.hid hb
  have HN := Lib.hid (And.intro hn hm)
  obtain ⟨V, hV⟩ : ∃ V, (if nv a ≤ nv b then 0 else nv a - nv b) = V := ⟨_, rfl⟩
  rw [hV]
  clear ha hb hn hm
  by_cases hle : nv a ≤ nv b
  · rw [if_pos hle] at hV
    have hx : cmpI (nv a) (nv b) ≤ 0 := by unfold cmpI; repeat' split <;> try omega
    obtain ⟨R, hR⟩ : ∃ R, cmpI (nv a) (nv b) = R := ⟨_, rfl⟩
    rw [hR] at CQ hx
    have HV := Lib.hid hV
    clear hR hV hle CA CB
    go_enter Try.func122, Try.ntmps122
    go_wp2_with (go_at_call 95; (with_reducible refine CQ.out.mono ?_); rintro e1 w1 ⟨rfl, hb1⟩)
    go_ret
    exact ⟨_, [], rfl, OwG.nil, by rw [← HV.out]; rfl, Nrm.nil, Nat.zero_le _, hb1⟩
  rw [if_neg hle] at hV
  have hx : ¬ cmpI (nv a) (nv b) ≤ 0 := by unfold cmpI; rw [if_neg (by omega), if_neg (by omega)]; omega
  obtain ⟨R, hR⟩ : ∃ R, cmpI (nv a) (nv b) = R := ⟨_, rfl⟩
  rw [hR] at CQ hx
  have HLE := Lib.hid hle
  have HV := Lib.hid hV
  clear hR hV hle
  go_enter Try.func122, Try.ntmps122
  go_upto_region 4 with (first
    | (go_at_call 95; (with_reducible refine CQ.out.mono ?_); rintro e0 w0 ⟨rfl, hb0⟩; have HB0 := Lib.hid hb0; clear hb0)
    | (go_at_call 115; first
      | ((with_reducible refine (CA.out _ HB0.out).mono ?_); rintro e1 w1 ⟨p, hp, rfl, hb1⟩; have HP := Lib.hid hp; have HB1 := Lib.hid (below_then HB0.out hb1); clear hp hb1)
      | ((with_reducible refine (CB.out _ HB1.out).mono ?_); rintro e2 w2 ⟨q, hq, rfl, hb2⟩; have HQ := Lib.hid hq; have HB2 := Lib.hid (below_then HB1.out hb2); clear hq hb2)))
  obtain ⟨X, hpl⟩ : ∃ x, a.take p = x := ⟨_, rfl⟩
  obtain ⟨Y, hql⟩ : ∃ x, b.take q = x := ⟨_, rfl⟩
  have HPD : Hid (X.length = p ∧ nv X = nv a ∧ Nrm X) := Lib.hid (by rw [← hpl]; exact ⟨HP.out.len, HP.out.nv, HP.out.nrm⟩)
  have HQD : Hid (Y.length = q ∧ nv Y = nv b ∧ Nrm Y) := Lib.hid (by rw [← hql]; exact ⟨HQ.out.len, HQ.out.nv, HQ.out.nrm⟩)
  have HX : Hid (DigA w A X) := Lib.hid (by rw [← hpl]; exact HA.out.takeL p)
  have HY : Hid (DigA w B Y) := Lib.hid (by rw [← hql]; exact HB.out.takeL q)
  have HL : Hid (X.length = p ∧ Y.length = q) := Lib.hid ⟨HPD.out.1, HQD.out.1⟩
  have hpn : p ≤ n := by have := HP.out.le; have := HN.out; omega
  have hqp : q ≤ p := by
    rcases Nat.lt_or_ge p q with h | h
    · have := nrm_lt HX.out.dig HY.out.dig HQD.out.2.2 (by have := HL.out; omega)
      have := HLE.out; have := HPD.out.2.1; have := HQD.out.2.1; omega
    · exact h
  have HXV : Hid (nv X - nv Y = V) := Lib.hid (by rw [HPD.out.2.1, HQD.out.2.1]; exact HV.out)
  have HXL : Hid (nv Y ≤ nv X) := Lib.hid (by have := HLE.out; have := HPD.out.2.1; have := HQD.out.2.1; omega)
  clear hpl hql HP HQ CA CB CQ HA HB HN HV HLE
  go_upto_region 5 with ((with_reducible show wpList _ _ _ (Oper.mk _ (.makeSlice _ _ _) _ _ _ _ :: _) _ _); refine mk_dig rfl _ _ rfl w.heap.size p rfl rfl rfl (by omega) HB2.out.size ?_; intro w3 ho3 hb3; have HO3 := Lib.hid ho3; have HB3 := Lib.hid (below_then HB2.out hb3); clear ho3 hb3)
  go_upto_region 7 with fail
  obtain ⟨g, hg⟩ : ∃ g, g = w2.heap.size := ⟨_, rfl⟩
  have HG : Hid (w.heap.size ≤ g) := Lib.hid (by rw [hg]; exact HB2.out.size)
  rw [← hg] at HO3 ⊢
  clear hg hx
  go_loopw [8, 25] (fun cy i wr => ∃ (k : Nat) (T : List Int) (cr : Int), k ≤ p ∧ i = .int .i64 k ∧ cy = .int .u64 cr ∧ Hid (0 ≤ cr ∧ cr ≤ 1) ∧ Hid (T.length = k) ∧ Hid (nv T = nv (X.take k) - nv (Y.take k) + bp k * cr) ∧ Hid (OwG w.heap.size wr (.slice (some ⟨g, 0, none⟩) p p) (T ++ List.replicate (p - k) 0)) ∧ Hid (Below w.heap.size w wr)) (fun _ i _ => p - (intOf i).toNat)
  case atStart => exact ⟨0, [], 0, Nat.zero_le _, rfl, rfl, Lib.hid (by omega), Lib.hid rfl, Lib.hid (by simp [nv]), HO3, HB3⟩
  case round =>
    obtain ⟨k, T, cr, hk, rfl, rfl, HCR, HT, HS, HO, HBW⟩ := hrel
    by_cases hlt : k < p
    · obtain ⟨ad, x, rfl, _, hx, hcx, i1, i2⟩ := (HX.out.grow HBW.out).at_ (k := k) (by rw [HL.out.1]; exact hlt)
      have HXX := Lib.hid hx
      have x0 : (0 : Int) ≤ (k : Int) := by omega
      have x1 : (k : Int) < (p : Int) := by omega
      have hcr := HCR.out
      obtain ⟨mz, hmz⟩ : ∃ m, p - k = m + 1 := ⟨p - k - 1, by omega⟩
      have ho := HO.out
      rw [hmz] at ho
      clear hx
      by_cases hky : k < q
      · obtain ⟨bd, y, rfl, _, hy, hcy, j1, j2⟩ := (HY.out.grow HBW.out).at_ (k := k) (by rw [HL.out.2]; exact hky)
        have HYY := Lib.hid hy
        have x3 : (k : Int) < (q : Int) := by omega
        clear hy
        go_upto_region 12 with fail
        obtain ⟨t, ht⟩ : ∃ t, IntKind.u64.wrap (IntKind.u64.wrap (x - cr) - y) = t := ⟨_, rfl⟩
        rw [ht]
        obtain ⟨⟨t1, t2⟩, t3, t4, t5⟩ := sub_wrap ⟨i1, i2⟩ hcr ⟨j1, j2⟩ ht
        have zc := ho.cell (k := k) (y := 0) (by rw [List.getElem?_append_right (by rw [HT.out]; exact Nat.le_refl _), HT.out, Nat.sub_self]; rfl)
        have zf := ho.free k
        have hse := ho.set k (y := t % 4294967296) ⟨by omega, by omega⟩
        rw [set_zeros T mz _ HT.out] at hse
        have HSE := Lib.hid hse
        have HBS := Lib.hid (HBW.out.setCell (p := ⟨g, k, none⟩) HG.out (.int .u32 (t % 4294967296)))
        have HST := Lib.hid (sub_one (s := t % 4294967296) (c' := t / 9223372036854775808) HT.out HXX.out (nv_take HYY.out) HS.out t3)
        have HCN := Lib.hid (And.intro t4 t5)
        clear ho hse t3 t4 t5 ht
        go_wp2_with fail
        go_roundw
        case rel => exact ⟨k + 1, T ++ [t % 4294967296], t / 9223372036854775808, by omega, by go_num, rfl, HCN, Lib.hid (by rw [List.length_append, HT.out]; rfl), HST, Lib.hid (by rw [show p - (k + 1) = mz by omega]; exact HSE.out), HBS⟩
        case measure => simp [intOf]; omega
      · have x3 : ¬ (k : Int) < (q : Int) := by omega
        have HTP := Lib.hid (take_past (Y := Y) (k := k) (by rw [HL.out.2]; omega))
        go_upto_region 12 with fail
        obtain ⟨t, ht⟩ : ∃ t, IntKind.u64.wrap (x - cr) = t := ⟨_, rfl⟩
        rw [ht]
        obtain ⟨⟨t1, t2⟩, t3, t4, t5⟩ := sub_wrap (y := 0) (t := t) ⟨i1, i2⟩ hcr (by omega) (by rw [Int.sub_zero, ← ht, wrapU, wrapU]; omega)
        have zc := ho.cell (k := k) (y := 0) (by rw [List.getElem?_append_right (by rw [HT.out]; exact Nat.le_refl _), HT.out, Nat.sub_self]; rfl)
        have zf := ho.free k
        have hse := ho.set k (y := t % 4294967296) ⟨by omega, by omega⟩
        rw [set_zeros T mz _ HT.out] at hse
        have HSE := Lib.hid hse
        have HBS := Lib.hid (HBW.out.setCell (p := ⟨g, k, none⟩) HG.out (.int .u32 (t % 4294967296)))
        have HST := Lib.hid (sub_one (s := t % 4294967296) (c' := t / 9223372036854775808) HT.out HXX.out HTP.out HS.out t3)
        have HCN := Lib.hid (And.intro t4 t5)
        clear ho hse t3 t4 t5 ht
        go_wp2_with fail
        go_roundw
        case rel => exact ⟨k + 1, T ++ [t % 4294967296], t / 9223372036854775808, by omega, by go_num, rfl, HCN, Lib.hid (by rw [List.length_append, HT.out]; rfl), HST, Lib.hid (by rw [show p - (k + 1) = mz by omega]; exact HSE.out), HBS⟩
        case measure => simp [intOf]; omega
    · obtain rfl : k = p := by omega
      have ho := HO.out
      rw [Nat.sub_self, List.replicate_zero, List.append_nil] at ho
      have hcr := HCR.out
      have HF : Hid (nv T = V) := Lib.hid (by
        have h1 := HS.out
        rw [take_len (by rw [HL.out.1]; exact Nat.le_refl _), take_len (by rw [HL.out.2]; exact hqp), HXV.out] at h1
        have h2 := nv_lt (OwG.dig ho)
        have h3 := nv_low (OwG.dig ho)
        rw [HT.out] at h2
        have h4 : nv X < bp k := by have := nv_lt HX.out.dig; rw [HL.out.1] at this; exact this
        have h5 := nv_low HY.out.dig
        rcases (show cr = 0 ∨ cr = 1 by omega) with hc0 | hc0
        · rw [hc0, Int.mul_zero] at h1; omega
        · rw [hc0, Int.mul_one] at h1
          have := HXL.out; have := HXV.out; omega)
      have HOE := Lib.hid ho
      have CC : Hid (Calls Try.prog 115 #[.slice (some ⟨g, 0, none⟩) k k] wr (RetCut wr (some ⟨g, 0, none⟩) k T)) := Lib.hid (nt_cut _ _ _ _ wr ho.digA ho.len.1 (Nat.le_refl _) (by omega))
      clear ho
      go_wp2_with (go_at_call 115; (with_reducible refine CC.out.mono ?_); intro e5 w5 h5; have H5 := RetCut.toN HOE.out HBW.out h5; obtain ⟨k5, hk5, rfl, hb5⟩ := h5)
      go_ret
      rw [HF.out] at H5
      exact H5.le (by omega)
end Go.Proofs.Ytmdfgidejdiiiaa
end
section
namespace Go.Proofs.Ytmdfgidejdiiiaa
theorem mul_mono {a b c : Int} (h : a ≤ b) (hc : 0 ≤ c) : a * c ≤ b * c := Int.mul_le_mul_of_nonneg_right h hc
theorem mul_mono' {a b c : Int} (h : a ≤ b) (hc : 0 ≤ c) : c * a ≤ c * b := Int.mul_le_mul_of_nonneg_left h hc
structure Guess (P ul u2 top vl v2 v1 U V : Int) : Prop where
  p : 0 < P
  ul0 : 0 ≤ ul
  ul1 : ul < P
  u20 : 0 ≤ u2
  u21 : u2 < 4294967296
  t0 : 0 ≤ top
  vl0 : 0 ≤ vl
  vl1 : vl < P
  v20 : 0 ≤ v2
  v21 : v2 < 4294967296
  v10 : 2147483648 ≤ v1
  v11 : v1 < 4294967296
  hU : U = ul + P * (u2 + 4294967296 * top)
  hV : V = vl + P * (v2 + 4294967296 * v1)
section
variable {P ul u2 top vl v2 v1 U V : Int}
theorem Guess.V0 (g : Guess P ul u2 top vl v2 v1 U V) : P * 4294967296 ≤ V := by
  have := mul_mono' (a := 4294967296) (b := v2 + 4294967296 * v1) (c := P) (by have := g.v10; have := g.v20; omega) (by have := g.p; omega)
  have := g.hV; have := g.vl0; omega
theorem Guess.U0 (g : Guess P ul u2 top vl v2 v1 U V) : 0 ≤ U := by
  have := Int.mul_nonneg (a := P) (b := u2 + 4294967296 * top) (by have := g.p; omega) (by have := g.u20; have := g.t0; omega)
  have := g.hU; have := g.ul0; omega
theorem Guess.seen (g : Guess P ul u2 top vl v2 v1 U V) {q r : Int} (h : q * v1 + r = top) : q * (P * (v2 + 4294967296 * v1)) = P * (q * v2 + 4294967296 * top - 4294967296 * r) := by
  have e : q * (v2 + 4294967296 * v1) = q * v2 + 4294967296 * top - 4294967296 * r := by
    rw [Int.mul_add, ← h, show q * (4294967296 * v1) = 4294967296 * (q * v1) by rw [← Int.mul_assoc, Int.mul_comm q 4294967296, Int.mul_assoc]]
    omega
  rw [← e, ← Int.mul_assoc, Int.mul_comm q P, Int.mul_assoc]
theorem Guess.high (g : Guess P ul u2 top vl v2 v1 U V) {q r : Int} (h : q * v1 + r = top) (hq : 0 ≤ q) (hB : q ≤ 4294967296) (hx : 4294967296 ≤ r ∨ q * v2 ≤ 4294967296 * r + u2) : q * V < U + V := by
  have h1 := g.seen h
  have h2 : q * v2 ≤ 4294967296 * r + u2 := by
    rcases hx with hx | hx
    · have a := mul_mono hB g.v20
      have := g.v21; have := g.u20; omega
    · exact hx
  have h3 := mul_mono' (a := q * v2 + 4294967296 * top - 4294967296 * r) (b := u2 + 4294967296 * top) (c := P) (by omega) (by have := g.p; omega)
  have h4 : q * V = q * vl + q * (P * (v2 + 4294967296 * v1)) := by rw [g.hV, Int.mul_add]
  have h5 := mul_mono hB g.vl0
  have h6 := g.V0
  have := g.hU; have := g.ul0; have := g.vl1
  omega
theorem Guess.low (g : Guess P ul u2 top vl v2 v1 U V) {Q : Int} (h0 : 0 ≤ Q) (h : Q * V ≤ U) : Q * v1 ≤ top := by
  by_cases hlt : top < Q * v1
  · exfalso
    have e : Q * V = Q * vl + P * (Q * v2 + 4294967296 * (Q * v1)) := by
      rw [g.hV, Int.mul_add]
      congr 1
      rw [show Q * v2 + 4294967296 * (Q * v1) = Q * (v2 + 4294967296 * v1) by rw [Int.mul_add, ← Int.mul_assoc Q 4294967296 v1, Int.mul_comm Q 4294967296, Int.mul_assoc], ← Int.mul_assoc, ← Int.mul_assoc, Int.mul_comm Q P]
    have h1 := Int.mul_nonneg h0 g.vl0
    have h2 := Int.mul_nonneg h0 g.v20
    have h3 := mul_mono' (a := 4294967296 * (top + 1)) (b := Q * v2 + 4294967296 * (Q * v1)) (c := P) (by omega) (by have := g.p; omega)
    have h4 := mul_mono' (a := u2 + 4294967296 * top + 1) (b := 4294967296 * (top + 1)) (c := P) (by have := g.u21; omega) (by have := g.p; omega)
    rw [show u2 + 4294967296 * top + 1 = (u2 + 4294967296 * top) + 1 by omega, Int.mul_add, Int.mul_one] at h4
    have := g.hU; have := g.ul1
    omega
  · omega
theorem Guess.less (g : Guess P ul u2 top vl v2 v1 U V) {q r Q : Int} (h : q * v1 + r = top) (hq : 0 ≤ q) (hx : 4294967296 * r + u2 < q * v2) (hQ : Q * V ≤ U) : Q + 1 ≤ q := by
  have h1 := g.seen h
  have h3 := mul_mono' (a := u2 + 4294967296 * top + 1) (b := q * v2 + 4294967296 * top - 4294967296 * r) (c := P) (by omega) (by have := g.p; omega)
  rw [show u2 + 4294967296 * top + 1 = (u2 + 4294967296 * top) + 1 by omega, Int.mul_add, Int.mul_one] at h3
  have h4 : q * V = q * vl + q * (P * (v2 + 4294967296 * v1)) := by rw [g.hV, Int.mul_add]
  have h5 := Int.mul_nonneg hq g.vl0
  have hV := g.V0
  have hp := g.p
  have hlt : Q * V < q * V := by have := g.hU; have := g.ul1; omega
  have := Int.lt_of_mul_lt_mul_right hlt (by omega)
  omega
end
theorem digit_of {Q q U V : Int} (hV : 0 < V) (h1 : Q * V ≤ U) (h2 : U < (Q + 1) * V) (h3 : Q ≤ q) (h4 : q * V < U + V) : q = Q ∨ q = Q + 1 := by
  have h5 : q * V < (Q + 2) * V := by
    rw [show (Q + 2) * V = (Q + 1) * V + V by rw [Int.add_mul, Int.add_mul]; omega]; omega
  have := Int.lt_of_mul_lt_mul_right h5 (by omega)
  omega
theorem quo_of {U V : Int} (hV : 0 < V) : (U / V) * V ≤ U ∧ U < (U / V + 1) * V := by
  have h1 := Int.mul_ediv_add_emod U V
  have h2 := Int.emod_nonneg U (by omega : V ≠ 0)
  have h3 := Int.emod_lt_of_pos U hV
  rw [Int.mul_comm V] at h1
  rw [Int.add_mul, Int.one_mul]
  omega
theorem guess_digit {q r v1 u0 u1 : Int} (h : q * v1 + r = 4294967296 * u0 + u1) (hu : u0 ≤ v1) (hu1 : u1 < 4294967296) (hr : 4294967296 ≤ r) (hv : 0 < v1) : q < 4294967296 := by
  have : q * v1 < 4294967296 * v1 := by omega
  exact Int.lt_of_mul_lt_mul_right this (by omega)
end Go.Proofs.Ytmdfgidejdiiiaa
end
section
namespace Go.Proofs.Ytmdfgidejdiiiaa
open Go.RowKit
def ZeroFrom (P : List Int) (s : Nat) : Prop := ∀ (m : Nat) (x : Int), s ≤ m → P[m]? = some x → x = 0
theorem ZeroFrom.rep (n s : Nat) : ZeroFrom (List.replicate n 0) s := fun m x _ h => by
  rw [List.getElem?_replicate] at h
  split at h
  · injection h with h; exact h.symm
  · cases h
theorem ZeroFrom.set {P : List Int} {s i : Nat} {y : Int} (h : ZeroFrom P s) (hi : i < s) : ZeroFrom (P.set i y) s := fun m x hm hx => by
  rw [List.getElem?_set_ne (by omega)] at hx
  exact h m x hm hx
theorem ZeroFrom.le {P : List Int} {s t : Nat} (h : ZeroFrom P s) (ht : s ≤ t) : ZeroFrom P t := fun m x hm hx => h m x (by omega) hx
theorem mul_step {P0 P : Int} {Y : List Int} {i j : Nat} {d e o c t : Int} (hY : Y[j]? = some e) (hP : P + bp (i + j) * c = P0 + bp i * (d * nv (Y.take j))) (ht : t = d * e + o + c) :
    P + bp (i + j) * (t % 4294967296 - o) + bp (i + j + 1) * (t / 4294967296) = P0 + bp i * (d * nv (Y.take (j + 1))) := by
  rw [nv_take hY, bp_succ, bp_add] at *
  have h0 := Int.mul_ediv_add_emod t 4294967296
  have h1 : bp i * bp j * (t % 4294967296 - o) + 4294967296 * (bp i * bp j) * (t / 4294967296) = bp i * bp j * (t - o) := by
    rw [show 4294967296 * (bp i * bp j) * (t / 4294967296) = bp i * bp j * (4294967296 * (t / 4294967296)) by rw [Int.mul_comm 4294967296, Int.mul_assoc], ← Int.mul_add]
    congr 1
    omega
  have h2 : bp i * (d * (nv (Y.take j) + bp j * e)) = bp i * (d * nv (Y.take j)) + bp i * bp j * (d * e) := by
    rw [Int.mul_add, Int.mul_add]
    congr 1
    rw [Int.mul_left_comm d, Int.mul_assoc]
  have h3 : bp i * bp j * (t - o) = bp i * bp j * (d * e) + bp i * bp j * c := by rw [← Int.mul_add]; congr 1; omega
  rw [h2]
  omega
theorem mul_row {X : List Int} {i : Nat} {d y : Int} (h : X[i]? = some d) : nv (X.take (i + 1)) * y = nv (X.take i) * y + bp i * (d * y) := by
  rw [nv_take h, Int.add_mul, Int.mul_assoc]
theorem mul_dig {d e : Int} (hd : 0 ≤ d ∧ d < 4294967296) (he : 0 ≤ e ∧ e < 4294967296) : 0 ≤ d * e ∧ d * e ≤ 18446744065119617025 := by
  have h1 := Int.mul_nonneg hd.1 he.1
  have h2 := mul_mono (a := d) (b := 4294967295) (c := e) (by omega) he.1
  omega
set_option maxRecDepth 100000 in
set_option maxHeartbeats 1000000 in
theorem nt_Mul (A B : Option Addr) (n m c d : Nat) (a b : List Int) (w : World) (ha : DigA w A a) (hb : DigA w B b) (hn : a.length = n) (hm : b.length = m) (hc : n ≤ c) (hd : m ≤ d) (h9 : n ≤ 10000000) (h8 : m ≤ 10000000) :
    Calls Try.prog 89 #[.slice A n c, .slice B m d] w (RetN w (nv a * nv b) (n + m)) := by
  have CA : Hid (Calls Try.prog 115 #[.slice A n c] w (RetCut w A c a)) := nt_cut A n c a w ha hn hc (by omega)
  have CB : Hid (∀ w1, Below w.heap.size w w1 → Calls Try.prog 115 #[.slice B m d] w1 (RetCut w1 B d b)) := fun w1 h => nt_cut B m d b w1 (hb.grow h) hm hd (by omega)
  have HA := Lib.hid ha
  have HB := Lib.hid hb
  have HN := Lib.hid (And.intro hn hm)
  obtain ⟨V, hV⟩ : ∃ V, nv a * nv b = V := ⟨_, rfl⟩
  rw [hV]
  have HV := Lib.hid hV
  clear ha hb hn hm hV
  go_enter Try.func89, Try.ntmps89
  go_upto_region 2 with (go_at_call 115; first
    | ((with_reducible refine CA.out.mono ?_); rintro e1 w1 ⟨p, hp, rfl, hb1⟩; have HP := Lib.hid hp; have HB1 := Lib.hid hb1; clear hp hb1)
    | ((with_reducible refine (CB.out _ HB1.out).mono ?_); rintro e2 w2 ⟨q, hq, rfl, hb2⟩; have HQ := Lib.hid hq; have HB2 := Lib.hid (below_then HB1.out hb2); clear hq hb2))
  obtain ⟨X, hpl⟩ : ∃ x, a.take p = x := ⟨_, rfl⟩
  obtain ⟨Y, hql⟩ : ∃ x, b.take q = x := ⟨_, rfl⟩
  have HX : Hid (DigA w A X) := Lib.hid (by rw [← hpl]; exact HA.out.takeL p)
  have HY : Hid (DigA w B Y) := Lib.hid (by rw [← hql]; exact HB.out.takeL q)
  have HL : Hid (X.length = p ∧ Y.length = q) := Lib.hid (by rw [← hpl, ← hql]; exact ⟨HP.out.len, HQ.out.len⟩)
  have HXV : Hid (nv X * nv Y = V) := Lib.hid (by rw [← hpl, ← hql, HP.out.nv, HQ.out.nv]; exact HV.out)
  have hpn : p ≤ n := by have := HP.out.le; have := HN.out; omega
  have hqm : q ≤ m := by have := HQ.out.le; have := HN.out; omega
  clear hpl hql HP HQ CA CB HA HB HN HV
  by_cases hp0 : p = 0
  · have HV0 : Hid (V = 0) := Lib.hid (by rw [← HXV.out, List.length_eq_zero_iff.1 (HL.out.1.trans hp0)]; simp [nv])
    subst hp0
    go_wp2_with fail
    go_ret
    exact ⟨_, [], rfl, OwG.nil, by rw [HV0.out]; rfl, Nrm.nil, Nat.zero_le _, HB2.out⟩
  have e0 : ((p : Int) == 0) = false := by simpa using hp0
  have e1 : decide ((p : Int) = 0) = false := decide_eq_false (by omega)
  by_cases hq0 : q = 0
  · have HV0 : Hid (V = 0) := Lib.hid (by rw [← HXV.out, List.length_eq_zero_iff.1 (HL.out.2.trans hq0)]; simp [nv])
    subst hq0
    have hp1 : (p : Int) ≠ 0 := by omega
    go_wp2_with fail
    go_ret
    exact ⟨_, [], rfl, OwG.nil, by rw [HV0.out]; rfl, Nrm.nil, Nat.zero_le _, HB2.out⟩
  have e2 : ((q : Int) == 0) = false := by simpa using hq0
  have e3 : decide ((q : Int) = 0) = false := decide_eq_false (by omega)
  obtain ⟨s, hs⟩ : ∃ s, p + q = s := ⟨_, rfl⟩
  have q1 : IntKind.i64.wrap ((p : Int) + (q : Int)) = (s : Int) := (IntWalk.i64_in _ (by omega)).trans (by omega)
  go_upto_region 5 with ((with_reducible show wpList _ _ _ (Oper.mk _ (.makeSlice _ _ _) _ _ _ _ :: _) _ _); refine mk_dig rfl _ _ rfl w.heap.size s rfl rfl rfl (by omega) HB2.out.size ?_; intro w3 ho3 hb3; have HO3 := Lib.hid ho3; have HB3 := Lib.hid (below_then HB2.out hb3); clear ho3 hb3)
  go_upto_region 6 with fail
  obtain ⟨g, hg⟩ : ∃ g, g = w2.heap.size := ⟨_, rfl⟩
  have HG : Hid (w.heap.size ≤ g) := Lib.hid (by rw [hg]; exact HB2.out.size)
  rw [← hg] at HO3 ⊢
  have HS := Lib.hid hs
  clear hg hs e0 e1 e2 e3 q1
  go_loopw [34] (fun i wr => ∃ (k : Nat) (P : List Int), k ≤ p ∧ i = .int .i64 k ∧ Hid (P.length = s) ∧ Hid (nv P = nv (X.take k) * nv Y) ∧ Hid (ZeroFrom P (k + q)) ∧ Hid (OwG w.heap.size wr (.slice (some ⟨g, 0, none⟩) s s) P) ∧ Hid (Below w.heap.size w wr)) (fun i _ => p - (intOf i).toNat)
  case atStart => exact ⟨0, List.replicate s 0, Nat.zero_le _, rfl, Lib.hid (by simp), Lib.hid (by rw [nv_rep]; simp [nv]), Lib.hid (ZeroFrom.rep _ _), HO3, HB3⟩
  case round =>
    obtain ⟨i, P, hk, rfl, HPL, HPV, HPZ, HO, HBW⟩ := hrel
    by_cases hlt : i < p
    · obtain ⟨ad, x, rfl, _, hx, hcx, i1, i2⟩ := (HX.out.grow HBW.out).at_ (k := i) (by rw [HL.out.1]; exact hlt)
      have HXX := Lib.hid hx
      have x0 : (0 : Int) ≤ (i : Int) := by omega
      have x1 : (i : Int) < (p : Int) := by omega
      clear hx
      by_cases hx0 : x = 0
      · subst hx0
        have HPV' : Hid (nv P = nv (X.take (i + 1)) * nv Y) := Lib.hid (by rw [mul_row HXX.out, HPV.out, Int.zero_mul, Int.mul_zero, Int.add_zero])
        go_wp2_with fail
        go_roundw
        case rel => exact ⟨i + 1, P, by omega, by go_num, HPL, HPV', Lib.hid (HPZ.out.le (by omega)), HO, HBW⟩
        case measure => simp [intOf]; omega
      · have hxf : (x == 0) = false := by simpa using hx0
        have HIP := Lib.hid hlt
        clear hx0 hlt
        go_upto_region 11 with fail
        obtain ⟨wo, hwo⟩ : ∃ wo : World, wo = wr := ⟨_, rfl⟩
        have HOP := HO
        have HBP := HBW
        rw [← hwo] at HOP HBP ⊢
        clear hwo HO HBW hcx
        go_loopw [10, 43] (fun cy jj wi => ∃ (j : Nat) (Q : List Int) (cr : Int), j ≤ q ∧ jj = .int .i64 j ∧ cy = .int .u64 cr ∧ Hid (0 ≤ cr ∧ cr < 4294967296) ∧ Hid (Q.length = s) ∧ Hid (nv Q + bp (i + j) * cr = nv P + bp i * (x * nv (Y.take j))) ∧ Hid (ZeroFrom Q (i + q)) ∧ Hid (OwG w.heap.size wi (.slice (some ⟨g, 0, none⟩) s s) Q) ∧ Hid (Below w.heap.size w wi)) (fun _ jj _ => q - (intOf jj).toNat)
        case atStart => exact ⟨0, P, 0, Nat.zero_le _, rfl, rfl, Lib.hid (by omega), HPL, Lib.hid (by simp [nv]), HPZ, HOP, HBP⟩
        case round =>
          obtain ⟨j, Q, cr, hj, rfl, rfl, HCR, HQL, HQV, HQZ, HQO, HBQ⟩ := hrel
          have hcr := HCR.out
          have hip := HIP.out
          have hs := HS.out
          by_cases hjq : j < q
          · obtain ⟨bd, y, rfl, _, hy, hcy, j1, j2⟩ := (HY.out.grow HBQ.out).at_ (k := j) (by rw [HL.out.2]; exact hjq)
            obtain ⟨ij, hij⟩ : ∃ k, i + j = k := ⟨_, rfl⟩
            obtain ⟨o, ho⟩ : ∃ o, Q[ij]? = some o := ⟨_, List.getElem?_eq_getElem (by rw [HQL.out]; omega)⟩
            have zc := HQO.out.cell ho
            have zf := HQO.out.free ij
            obtain ⟨o1, o2⟩ := HQO.out.dig.at_ ho
            obtain ⟨M, hM⟩ : ∃ M, x * y = M := ⟨_, rfl⟩
            obtain ⟨m1, m2⟩ := mul_dig ⟨i1, i2⟩ ⟨j1, j2⟩
            rw [hM] at m1 m2
            have HST := Lib.hid (mul_step (i := i) hy HQV.out (show M + o + cr = x * y + o + cr by rw [hM]))
            have hse := HQO.out.set ij (y := (M + o + cr) % 4294967296) ⟨by omega, by omega⟩
            have HSE := Lib.hid hse
            have HBS := Lib.hid (HBQ.out.setCell (p := ⟨g, ij, none⟩) HG.out (.int .u32 ((M + o + cr) % 4294967296)))
            have HCN : Hid (0 ≤ (M + o + cr) / 4294967296 ∧ (M + o + cr) / 4294967296 < 4294967296) := Lib.hid (by omega)
            have HNV : Hid (nv (Q.set ij ((M + o + cr) % 4294967296)) + bp (i + (j + 1)) * ((M + o + cr) / 4294967296) = nv P + bp i * (x * nv (Y.take (j + 1)))) := Lib.hid (by
              have h1 := HST.out
              rw [hij] at h1
              rw [nv_set ho, ← Nat.add_assoc, hij]
              exact h1)
            have HZN := Lib.hid (HQZ.out.set (i := ij) (y := (M + o + cr) % 4294967296) (by omega))
            have y0 : (0 : Int) ≤ (j : Int) := by omega
            have y1 : (j : Int) < (q : Int) := by omega
            have y2 : (0 : Int) ≤ (ij : Int) := by omega
            have y3 : (ij : Int) < (s : Int) := by omega
            have y4 : IntKind.i64.wrap ((i : Int) + (j : Int)) = (ij : Int) := (IntWalk.i64_in _ (by omega)).trans (by omega)
            have HJ : Hid (j + 1 ≤ q ∧ j < q) := Lib.hid ⟨hjq, hjq⟩
            clear hse ho hy hij hs hip hjq hj HST HQO HQV HQZ
            go_wp2_with fail
            go_roundw
            case rel => exact ⟨j + 1, Q.set ij ((M + o + cr) % 4294967296), (M + o + cr) / 4294967296, HJ.out.1, by go_num, rfl, HCN, Lib.hid (by rw [List.length_set]; exact HQL.out), HNV, HZN, HSE, HBS⟩
            case measure => have := HJ.out.2; simp [intOf]; omega
          · obtain rfl : j = q := by omega
            obtain ⟨ij, hij⟩ : ∃ k, i + j = k := ⟨_, rfl⟩
            obtain ⟨o, ho⟩ : ∃ o, Q[ij]? = some o := ⟨_, List.getElem?_eq_getElem (by rw [HQL.out]; omega)⟩
            obtain rfl : o = 0 := HQZ.out ij o (by omega) ho
            have zc := HQO.out.cell ho
            have zf := HQO.out.free ij
            have hse := HQO.out.set ij (y := cr) ⟨by omega, by omega⟩
            have HSE := Lib.hid hse
            have HBS := Lib.hid (HBQ.out.setCell (p := ⟨g, ij, none⟩) HG.out (.int .u32 cr))
            have HNV : Hid (nv (Q.set ij cr) = nv (X.take (i + 1)) * nv Y) := Lib.hid (by
              have h1 := HQV.out
              rw [hij, take_len (by rw [HL.out.2]; exact Nat.le_refl _)] at h1
              rw [nv_set ho, Int.sub_zero, h1, mul_row HXX.out, HPV.out])
            have HZN : Hid (ZeroFrom (Q.set ij cr) (i + 1 + j)) := Lib.hid ((HQZ.out.le (t := i + 1 + j) (by omega)).set (by omega))
            have y2 : (0 : Int) ≤ (ij : Int) := by omega
            have y3 : (ij : Int) < (s : Int) := by omega
            have y4 : IntKind.i64.wrap ((i : Int) + (j : Int)) = (ij : Int) := (IntWalk.i64_in _ (by omega)).trans (by omega)
            clear hse ho hij hs hip hjq HQO HQV HQZ
            go_wp2_with fail
            go_roundw
            case rel => exact ⟨i + 1, Q.set ij cr, HIP.out, by go_num, Lib.hid (by rw [List.length_set]; exact HQL.out), HNV, HZN, HSE, HBS⟩
            case measure => have := HIP.out; simp [intOf]; omega
    · obtain rfl : i = p := by omega
      have HF : Hid (nv P = V) := Lib.hid (by rw [HPV.out, take_len (by rw [HL.out.1]; exact Nat.le_refl _)]; exact HXV.out)
      have hs := HS.out
      have CC : Hid (Calls Try.prog 115 #[.slice (some ⟨g, 0, none⟩) s s] wr (RetCut wr (some ⟨g, 0, none⟩) s P)) := Lib.hid (nt_cut _ _ _ _ wr HO.out.digA HO.out.len.1 (Nat.le_refl _) (by omega))
      go_wp2_with (go_at_call 115; (with_reducible refine CC.out.mono ?_); intro e5 w5 h5; have H5 := RetCut.toN HO.out HBW.out h5; obtain ⟨k5, hk5, rfl, hb5⟩ := h5)
      go_ret
      rw [HF.out] at H5
      exact H5.le (by omega)
end Go.Proofs.Ytmdfgidejdiiiaa
end
