/- Several texts in one: Ip Ii Ij. -/
import Derived.Test.YtmdfgidejdiiiaalIo
import Derived.Test.YtmdfgidejdiiiaalIh
set_option linter.unusedVariables false
set_option linter.unusedSimpArgs false
section
namespace Go.Proofs.Ytmdfgidejdiiiaa
open Go.RowKit
set_option maxRecDepth 100000 in
set_option maxHeartbeats 4000000 in
theorem r2_Of (k : Int) (w : World) (hk : I64 k) : Calls Try.prog 84 #[.int .i64 k] w (RetI w k 2) := by
  obtain ⟨t, -, t0, t1, tn, tp⟩ := abs_facts hk
  unfold I64 at hk
  have z1 : 0 ≤ t % 4294967296 ∧ t % 4294967296 < 4294967296 := by omega
  have z2 : 0 ≤ t / 4294967296 ∧ t / 4294967296 < 4294967296 := by omega
  obtain ⟨dI, hI1, hI2⟩ := row_Int
  have HI := Lib.hid (And.intro hI1 hI2)
  clear hI1 hI2
  by_cases hn : k < 0
  · have HT : Hid (k = -t) := Lib.hid (by have := tn hn; omega)
    have hw : -(k + 1) + 1 = t := by have := tn hn; omega
    have hw1 : IntKind.i64.wrap (k + 1) = k + 1 := IntWalk.i64_in _ (by omega)
    have hw2 : IntKind.i64.wrap (-(k + 1)) = -(k + 1) := IntWalk.i64_in _ (by omega)
    have hw3 : IntKind.u64.wrap (-(k + 1)) = -(k + 1) := IntWalk.u64_in _ (by omega)
    clear tn tp
    go_enter Try.func84, Try.ntmps84
    go_upto_region 3 with fail
    have hB : Below w.heap.size w (w.alloc (.cells #[.bool false, .slice none 0 0] 26)) := (Below.refl _ _).alloc (Nat.le_refl _) _
    have b3 : Box (w.alloc (.cells #[.bool false, .slice none 0 0] 26)) w.heap.size [.bool false, .slice none 0 0] := Box.new rfl
    generalize w.alloc (.cells #[.bool false, .slice none 0 0] 26) = wA at hB b3 ⊢
    have hb1 := (Below.refl wA.heap.size wA).alloc (Nat.le_refl _) (.cells #[.int .u32 (t % 4294967296), .int .u32 (t / 4294967296)] 77)
    have CT : Hid (Calls Try.prog 103 #[.agg #[.bool true, .slice (some ⟨wA.heap.size, 0, none⟩) 2 2]] (wA.alloc (.cells #[.int .u32 (t % 4294967296), .int .u32 (t / 4294967296)] 77)) (RetI (wA.alloc (.cells #[.int .u32 (t % 4294967296), .int .u32 (t / 4294967296)] 77)) k 2)) := Lib.hid (by
      have hd := (digA_two (w := wA) z1 z2).digB (b' := 0)
      have h := r2_Trim _ _ 2 0 _ (IntB.mk (ng := true) (A := some ⟨wA.heap.size, 0, none⟩) (n := 2) (c := 2) (K := 2) ⟨hd, rfl, Nat.le_refl _, Nat.le_refl _⟩) (by omega)
      rw [show sgn true (nv [t % 4294967296, t / 4294967296]) = k by have := HT.out; simp only [nv, sgn, if_true, if_false, Bool.false_eq_true]; omega] at h
      exact h)
    have HA := Lib.hid (And.intro hB (And.intro b3 hb1))
    clear hB b3 hb1
    go_wp2_with (first
      | (go_at_call 103; (with_reducible refine CT.out.mono ?_); rintro e1 w1 ⟨v1, rfl, hi, hb1⟩; have HO := Lib.hid (hi.base HA.out.2.2.size); obtain ⟨ng, A1, c1, l1, rfl, -⟩ := hi; have HB1 := Lib.hid (below_then HA.out.2.2 hb1); clear hb1)
      | ((with_reducible show wpList _ _ _ (Oper.mk none (.store 26 _ _) _ _ _ _ :: _) _ _); refine wp_st rfl 26 _ _ rfl (w.heap.size) 0 [_, _] rfl rfl size_Int rfl (HA.out.2.1.keep HB1.out) (Nat.le_refl _) rfl ?_; intro W9 c9 g9))
    have hW := put_facts (g := w.heap.size) (below_then HA.out.1 HB1.out) (Nat.le_refl _) g9
    have ho := (HO.out.away g9 HA.out.2.1.1).base (b' := w.heap.size) HA.out.1.size
    refine bodyPost_ret (resC rfl _ _ W9 (g := w.heap.size) rfl (res_box 26 c9 dI HI.out.1 HI.out.2 size_Int)) rfl ?_
    exact ⟨_, rfl, ho, hW⟩
  · obtain rfl : t = k := tp (by omega)
    have HT : Hid (t = t) := Lib.hid rfl
    have hw : IntKind.u64.wrap t = t := by rw [wrapU]; omega
    have hn' : 0 ≤ t := t0
    clear tn tp
    go_enter Try.func84, Try.ntmps84
    go_upto_region 4 with fail
    have hB : Below w.heap.size w (w.alloc (.cells #[.bool false, .slice none 0 0] 26)) := (Below.refl _ _).alloc (Nat.le_refl _) _
    have b3 : Box (w.alloc (.cells #[.bool false, .slice none 0 0] 26)) w.heap.size [.bool false, .slice none 0 0] := Box.new rfl
    generalize w.alloc (.cells #[.bool false, .slice none 0 0] 26) = wA at hB b3 ⊢
    have hb1 := (Below.refl wA.heap.size wA).alloc (Nat.le_refl _) (.cells #[.int .u32 (t % 4294967296), .int .u32 (t / 4294967296)] 77)
    have CT : Hid (Calls Try.prog 103 #[.agg #[.bool false, .slice (some ⟨wA.heap.size, 0, none⟩) 2 2]] (wA.alloc (.cells #[.int .u32 (t % 4294967296), .int .u32 (t / 4294967296)] 77)) (RetI (wA.alloc (.cells #[.int .u32 (t % 4294967296), .int .u32 (t / 4294967296)] 77)) t 2)) := Lib.hid (by
      have hd := (digA_two (w := wA) z1 z2).digB (b' := 0)
      have h := r2_Trim _ _ 2 0 _ (IntB.mk (ng := false) (A := some ⟨wA.heap.size, 0, none⟩) (n := 2) (c := 2) (K := 2) ⟨hd, rfl, Nat.le_refl _, Nat.le_refl _⟩) (by omega)
      rw [show sgn false (nv [t % 4294967296, t / 4294967296]) = t by have := HT.out; simp only [nv, sgn, if_true, if_false, Bool.false_eq_true]; omega] at h
      exact h)
    have HA := Lib.hid (And.intro hB (And.intro b3 hb1))
    clear hB b3 hb1
    go_wp2_with (first
      | (go_at_call 103; (with_reducible refine CT.out.mono ?_); rintro e1 w1 ⟨v1, rfl, hi, hb1⟩; have HO := Lib.hid (hi.base HA.out.2.2.size); obtain ⟨ng, A1, c1, l1, rfl, -⟩ := hi; have HB1 := Lib.hid (below_then HA.out.2.2 hb1); clear hb1)
      | ((with_reducible show wpList _ _ _ (Oper.mk none (.store 26 _ _) _ _ _ _ :: _) _ _); refine wp_st rfl 26 _ _ rfl (w.heap.size) 0 [_, _] rfl rfl size_Int rfl (HA.out.2.1.keep HB1.out) (Nat.le_refl _) rfl ?_; intro W9 c9 g9))
    have hW := put_facts (g := w.heap.size) (below_then HA.out.1 HB1.out) (Nat.le_refl _) g9
    have ho := (HO.out.away g9 HA.out.2.1.1).base (b' := w.heap.size) HA.out.1.size
    refine bodyPost_ret (resC rfl _ _ W9 (g := w.heap.size) rfl (res_box 26 c9 dI HI.out.1 HI.out.2 size_Int)) rfl ?_
    exact ⟨_, rfl, ho, hW⟩
end Go.Proofs.Ytmdfgidejdiiiaa
end
section
namespace Go.Proofs.Ytmdfgidejdiiiaa
open Go.RowKit
theorem digit_plain {L V : List Int} {j n n1 n2 : Nat} {u0 u1 u2 v1 v2 : Int} (hdL : Dig L) (hdV : Dig V) (hj : j + n + 1 ≤ L.length) (hn : V.length = n) (hn1 : n = n1 + 1) (hn2 : n = n2 + 2) (hz : ZeroFrom L (j + n + 1))
    (hu0 : L[j + n]? = some u0) (hu1 : L[j + n1]? = some u1) (hu2 : L[j + n2]? = some u2) (hv1 : V[n1]? = some v1) (hv2 : V[n2]? = some v2) (hv31 : 2147483648 ≤ v1) (hU : nv ((L.drop j).take (n + 1)) < 4294967296 * nv V) :
    ∃ U Q ul vl top, nv ((L.drop j).take (n + 1)) = U ∧ U / nv V = Q ∧ 4294967296 * u0 + u1 = top ∧ Guess (bp n2) ul u2 top vl v2 v1 U (nv V) ∧ (0 < nv V ∧ 0 ≤ Q ∧ Q * nv V ≤ U ∧ U < (Q + 1) * nv V ∧ Q < 4294967296) ∧ u0 ≤ v1 ∧ nv L = nv (L.take j) + bp j * U ∧ 0 ≤ nv (L.take j) ∧ nv (L.take j) < bp j := by
  obtain ⟨u0a, u0b⟩ := hdL.at_ hu0
  obtain ⟨u1a, u1b⟩ := hdL.at_ hu1
  obtain ⟨u2a, u2b⟩ := hdL.at_ hu2
  obtain ⟨v1a, v1b⟩ := hdV.at_ hv1
  obtain ⟨v2a, v2b⟩ := hdV.at_ hv2
  obtain ⟨U, hUe⟩ : ∃ U, nv ((L.drop j).take (n + 1)) = U := ⟨_, rfl⟩
  obtain ⟨W, hWe⟩ : ∃ W, nv V = W := ⟨_, rfl⟩
  obtain ⟨top, htp⟩ : ∃ t, 4294967296 * u0 + u1 = t := ⟨_, rfl⟩
  have hG : ∃ ul vl, Guess (bp n2) ul u2 top vl v2 v1 U W := by
    have hd := (hdL.drop j).take (n + 1)
    have g0 : ((L.drop j).take (n + 1))[n2 + 2]? = some u0 := by rw [List.getElem?_take, if_pos (by omega), List.getElem?_drop, show j + (n2 + 2) = j + n by omega]; exact hu0
    have g1 : ((L.drop j).take (n + 1))[n2 + 1]? = some u1 := by rw [List.getElem?_take, if_pos (by omega), List.getElem?_drop, show j + (n2 + 1) = j + n1 by omega]; exact hu1
    have g2 : ((L.drop j).take (n + 1))[n2]? = some u2 := by rw [List.getElem?_take, if_pos (by omega), List.getElem?_drop]; exact hu2
    have f0 := nv_take g0
    have f1 := nv_take g1
    have f2 := nv_take g2
    have hv1' : V[n2 + 1]? = some v1 := by rw [show n2 + 1 = n1 by omega]; exact hv1
    have f3 := nv_take hv1'
    have f4 := nv_take hv2
    rw [take_len (l := (L.drop j).take (n + 1)) (by simp; omega), hUe] at f0
    rw [take_len (l := V) (by omega), hWe] at f3
    refine ⟨nv (((L.drop j).take (n + 1)).take n2), nv (V.take n2), ⟨bp_pos _, nv_low (hd.take _), ?_, u2a, u2b, by omega, nv_low (hdV.take _), ?_, v2a, v2b, hv31, v1b, ?_, ?_⟩⟩
    · have := nv_lt (hd.take n2)
      rw [List.length_take, List.length_take, List.length_drop, Nat.min_eq_left (by omega)] at this
      exact this
    · have := nv_lt (hdV.take n2)
      rw [List.length_take, Nat.min_eq_left (by omega)] at this
      exact this
    · simp only [bp_succ] at f0 f1
      rw [f0, f1, f2, ← htp, Int.mul_add, Int.mul_add 4294967296, Int.mul_add]
      simp only [Int.mul_assoc, Int.mul_left_comm, Int.mul_comm]
      omega
    · simp only [bp_succ] at f3
      rw [f3, f4, Int.mul_add]
      simp only [Int.mul_assoc, Int.mul_left_comm, Int.mul_comm]
      omega
  obtain ⟨ul, vl, hG⟩ := hG
  rw [hUe, hWe] at hU
  rw [hUe, hWe]
  have hW0 : 0 < W := by have := hG.V0; have := hG.p; omega
  obtain ⟨Q, hQ⟩ : ∃ Q, U / W = Q := ⟨_, rfl⟩
  have hQ0 : 0 ≤ Q := by rw [← hQ]; exact Int.ediv_nonneg hG.U0 (by omega)
  obtain ⟨hQ1, hQ2⟩ := quo_of (U := U) hW0
  rw [hQ] at hQ1 hQ2
  have hQB : Q < 4294967296 := by
    have : Q * W < 4294967296 * W := by omega
    exact Int.lt_of_mul_lt_mul_right this (by omega)
  -- the digit above is at most the divisor's
  have hu0v : u0 ≤ v1 := by
    have hlo := hG.low hQ0 hQ1
    rcases Int.lt_or_le v1 u0 with h | h
    · exfalso
      have h3 : (4294967296 : Int) * W ≤ U := by
        have e1 := hG.hU
        have e2 := hG.hV
        have e3 := mul_mono' (a := 4294967296 * (v2 + 4294967296 * v1) + 4294967296) (b := u2 + 4294967296 * top) (c := bp n2) (by omega) (by have := hG.p; omega)
        rw [Int.mul_add, Int.mul_left_comm] at e3
        have := hG.vl1; have := hG.ul0
        omega
      omega
    · exact h
  have hLU : nv L = nv (L.take j) + bp j * U := by
    have h1 := nv_split L j (by omega)
    have h3 := nv_split (L.drop j) (n + 1) (by rw [List.length_drop]; omega)
    rw [List.drop_drop, nv_zeros (l := L.drop (j + (n + 1))) fun x hx => by
      obtain ⟨k, hk⟩ := List.getElem?_of_mem hx
      rw [List.getElem?_drop] at hk
      exact hz (j + (n + 1) + k) x (by omega) hk, hUe, Int.mul_zero, Int.add_zero] at h3
    rw [h1, h3]
  have hlo : 0 ≤ nv (L.take j) ∧ nv (L.take j) < bp j := by
    have h1 := nv_lt (hdL.take j)
    rw [List.length_take, Nat.min_eq_left (by omega)] at h1
    exact ⟨nv_low (hdL.take j), h1⟩
  exact ⟨U, Q, ul, vl, top, rfl, hQ, htp, hG, ⟨hW0, hQ0, hQ1, hQ2, hQB⟩, hu0v, hLU, hlo⟩
theorem digit_end {N0 N1 R U Q q W bw T : Int} {j s : Nat} (hW0 : 0 < W) (hQ1 : Q * W ≤ U) (hQ2 : U < (Q + 1) * W) (hq : q = Q ∨ q = Q + 1) (hN0 : N0 = T + bp j * U) (hT : 0 ≤ T ∧ T < bp j) (hN : N1 = N0 - bp j * (q * W) + bp s * bw) (hb : bw = 0 ∨ bw = 1) (h0 : 0 ≤ N1) (h1 : N1 < bp s) (hR : R = N0 - bp j * (Q * W)) :
    (bw = 0 → q = Q ∧ N1 = R) ∧ (bw = 1 → q = Q + 1 ∧ N1 + bp j * W = R + bp s ∧ 0 ≤ R) := by
  have hbp := bp_pos j
  refine ⟨fun hb0 => ?_, fun hb1 => ?_⟩
  · have hqQ : q = Q := by
      rcases hq with h | h
      · exact h
      · exfalso
        rw [hb0, Int.mul_zero, Int.add_zero, hN0] at hN
        have h5 := mul_mono' (a := U - q * W) (b := -1) (c := bp j) (by rw [h]; omega) (by omega)
        rw [Int.mul_sub] at h5
        omega
    exact ⟨hqQ, by rw [hR, hN, hb0, hqQ]; omega⟩
  · rw [hb1, Int.mul_one] at hN
    have hqQ : q = Q + 1 := by
      rcases hq with h | h
      · exfalso
        have h5 := mul_mono' (a := 0) (b := U - q * W) (c := bp j) (by rw [h]; omega) (by omega)
        rw [Int.mul_sub, Int.mul_zero] at h5
        omega
      · exact h
    have h5 := mul_mono' (a := 0) (b := U - Q * W) (c := bp j) (by omega) (by omega)
    rw [Int.mul_sub, Int.mul_zero] at h5
    have h6 : bp j * (q * W) = bp j * (Q * W) + bp j * W := by rw [hqQ, Int.add_mul, Int.one_mul, Int.mul_add]
    exact ⟨hqQ, by omega, by omega⟩
theorem dsub_one {V : List Int} {i j : Nat} {N0 N q d c b x s b' P : Int} (hV : V[i]? = some d) (hP : c + q * d = P) (h : N + bp j * (q * nv (V.take i)) = N0 + bp (j + i) * (c + b)) (hs : s = x - P % 4294967296 - b + 4294967296 * b') :
    N + bp (j + i) * (s - x) + bp j * (q * nv (V.take (i + 1))) = N0 + bp (j + (i + 1)) * (P / 4294967296 + b') := dsub_step hV (by omega) h hs
theorem dadd_one {V : List Int} {i j : Nat} {N0 N d c x t : Int} (hV : V[i]? = some d) (h : N + bp (j + i) * c = N0 + bp j * nv (V.take i)) (ht : t = c + (x + d)) :
    N + bp (j + i) * (t % 4294967296 - x) + bp (j + (i + 1)) * (t / 4294967296) = N0 + bp j * nv (V.take (i + 1)) := dadd_step hV h (by omega)
end Go.Proofs.Ytmdfgidejdiiiaa
end
section
namespace Go.Proofs.Ytmdfgidejdiiiaa
open Go.RowKit
theorem results_tmp3 {fn : Func} {t s x : Tmp} (h : fn.results = #[.tmp t, .tmp s, .tmp x]) (tmps : Array Value) (P : Program) (w : World) : (results fn tmps).run P w = .ok (.tuple #[tmps.getD t undef, tmps.getD s undef, tmps.getD x undef]) w := by
  simp [results, h]
set_option maxRecDepth 100000 in
set_option maxHeartbeats 1000000 in
theorem r1_DivMod_one (A B : Option Addr) (n0 m0 c d : Nat) (X0 Y0 : List Int) (w : World) (hX : DigA w A X0) (hY : DigA w B Y0) (hn : X0.length = n0) (hm : Y0.length = m0) (hc : n0 ≤ c) (hd : m0 ≤ d) (h9 : n0 ≤ 10000000) (h8 : m0 ≤ 10000000) (h0 : nv Y0 ≠ 0) (h1 : nv Y0 < 4294967296) :
    Calls Try.prog 127 #[.slice A n0 c, .slice B m0 d] w (RetQRE w (nv X0 / nv Y0) (nv X0 % nv Y0) n0 m0) := by
  have CA : Hid (Calls Try.prog 100 #[.slice A n0 c] w (RetN w (nv X0) n0)) := Lib.hid (r1_Trim A n0 c X0 w hX hn hc (by omega))
  have CB : Hid (∀ w1, Below w.heap.size w w1 → Calls Try.prog 100 #[.slice B m0 d] w1 (RetN w1 (nv Y0) m0)) := Lib.hid fun w1 h => r1_Trim B m0 d Y0 w1 (hY.grow h) hm hd (by omega)
  have H0 : Hid (nv Y0 ≠ 0 ∧ 0 ≤ nv Y0 ∧ 0 ≤ nv X0 ∧ nv Y0 < 4294967296) := Lib.hid ⟨h0, nv_low hY.dig, nv_low hX.dig, h1⟩
  clear hX hY hn hm hc hd h0 h1
  go_enter Try.func127, Try.ntmps127
  go_upto_region 2 with (go_at_call 100; first
    | ((with_reducible refine CA.out.mono ?_); rintro e1 w1 ⟨v1, X, rfl, o1, n1, m1, k1, hb1⟩; have HX1 := Lib.hid (And.intro o1 (And.intro n1 (And.intro m1 k1))); have HB1 := Lib.hid hb1; clear o1 n1 m1 k1 hb1)
    | ((with_reducible refine (CB.out _ HB1.out).mono ?_); rintro e2 w2 ⟨v2, Y, rfl, o2, n2, m2, k2, hb2⟩; have HY2 := Lib.hid (And.intro o2 (And.intro n2 (And.intro m2 k2))); have HB2 := Lib.hid hb2; clear o2 n2 m2 k2 hb2))
  obtain ⟨XA, xc, rfl, -, -⟩ := HX1.out.1.form
  obtain ⟨YA, yc, rfl, -, -⟩ := HY2.out.1.form
  obtain ⟨p, hp⟩ : ∃ p, X.length = p := ⟨_, rfl⟩
  obtain ⟨m, hm⟩ : ∃ m, Y.length = m := ⟨_, rfl⟩
  have hpn : p ≤ n0 := by have := HX1.out.2.2.2; omega
  have hmn : m ≤ m0 := by have := HY2.out.2.2.2; omega
  have HOX : Hid (OwG w.heap.size w2 (.slice XA p xc) X) := Lib.hid (hp ▸ HX1.out.1.grow HB2.out)
  have HOY : Hid (OwG w.heap.size w2 (.slice YA m yc) Y) := Lib.hid (hm ▸ HY2.out.1.base HB1.out.size)
  have HXY : Hid (nv X = nv X0 ∧ nv Y = nv Y0 ∧ Nrm X ∧ Nrm Y ∧ X.length = p ∧ Y.length = m) := Lib.hid ⟨HX1.out.2.1, HY2.out.2.1, HX1.out.2.2.1, HY2.out.2.2.1, hp, hm⟩
  have HBB := Lib.hid (below_then HB1.out HB2.out)
  have hm1 : m ≠ 0 := fun e => H0.out.1 (by rw [← HXY.out.2.1, List.length_eq_zero_iff.1 (hm.trans e)]; rfl)
  clear HX1 HY2 HB1 HB2 CA CB
  rw [hp, hm]
  clear hp hm
  obtain rfl : m = 1 := by
    have h := nrm_len (l := Y) (k := 1) HOY.out.dig HXY.out.2.2.2.1 (by rw [HXY.out.2.1, bp_one]; exact H0.out.2.2.2)
    have := HXY.out.2.2.2.2.2
    omega
  obtain ⟨y, rfl⟩ : ∃ y, Y = [y] := by
    have h := HXY.out.2.2.2.2.2
    match Y, h with
    | [z], _ => exact ⟨z, rfl⟩
  have hyv : nv [y] = nv Y0 := HXY.out.2.1
  rw [nv_one] at hyv
  obtain ⟨g, rfl, hg0⟩ := HOY.out.some (by omega)
  have hcy := HOY.out.cell (k := 0) (y := y) rfl
  obtain ⟨y1, y2⟩ := HOY.out.dig.at_ (k := 0) (x := y) rfl
  have hy0 : 0 < y := by have := H0.out.1; omega
  have CS : Hid (Calls Try.prog 134 #[.slice XA p xc, .int .u32 y] w2 (RetQD w2 (nv X0 / y) (nv X0 % y) n0)) := Lib.hid (by
    have := r1_small XA p xc X y w2 HOX.out.digA HXY.out.2.2.2.2.1 HOX.out.len.2 (by omega) hy0 y2
    rw [HXY.out.1] at this
    exact this.mono fun _ _ ⟨v, l, e, ⟨o, a, b, c⟩, h⟩ => ⟨v, l, e, ⟨o, a, b, Nat.le_trans c hpn⟩, h⟩)
  have HR : Hid (0 ≤ nv X0 % y ∧ nv X0 % y < 4294967296) := Lib.hid ⟨Int.emod_nonneg _ (by omega), Int.lt_trans (Int.emod_lt_of_pos _ hy0) y2⟩
  have HYV := Lib.hid hyv
  obtain ⟨r, hr⟩ : ∃ r, nv X0 % y = r := ⟨_, rfl⟩
  rw [hr] at CS HR
  have HRE := Lib.hid hr
  clear hg0 hyv hr
  go_upto_region 6 with (go_at_call 134; (with_reducible refine CS.out.mono ?_); rintro e3 w3 ⟨v3, l3, rfl, h3, hb3⟩; have H3 := Lib.hid h3; have HB3 := Lib.hid hb3; clear h3 hb3)
  have hr := HR.out
  have hba : Below w3.heap.size w3 (w3.alloc (.cells #[.int .u32 r] 77)) := (Below.refl _ _).alloc (Nat.le_refl _) _
  have CT : Hid (Calls Try.prog 100 #[.slice (some ⟨w3.heap.size, 0, none⟩) 1 1] (w3.alloc (.cells #[.int .u32 r] 77)) (RetN (w3.alloc (.cells #[.int .u32 r] 77)) r 1)) := Lib.hid (by
    have := r1_Trim (some ⟨w3.heap.size, 0, none⟩) 1 1 [r] _ (digA_one (w := w3) (x := r) hr).digA rfl (Nat.le_refl _) (by omega)
    rw [nv_one] at this
    exact this)
  have HBA := Lib.hid hba
  clear hba hr
  go_wp2_with (go_at_call 100; (with_reducible refine CT.out.mono ?_); intro e5 w5 h5; obtain ⟨v5, l5, rfl, h5⟩ := h5; have H5 := Lib.hid h5; clear h5)
  refine bodyPost_ret (results_tmp3 rfl _ _ _) rfl ?_
  have h5 := H5.out
  have hb3 := below_then HBB.out HB3.out
  have hba := below_then HB3.out HBA.out
  have hb5 := h5.2.2.2.2
  refine ⟨_, _, _, l5, rfl, ⟨((H3.out.1.grow HBA.out).grow hb5).base HBB.out.size, by rw [← HYV.out]; exact H3.out.2.1, H3.out.2.2.1, H3.out.2.2.2⟩, ⟨h5.1.base (below_then HBB.out hba).size, by rw [← HYV.out, HRE.out]; exact h5.2.1, h5.2.2.1, Nat.le_trans h5.2.2.2.1 hmn⟩, below_then (below_then HBB.out hba) hb5⟩
set_option maxRecDepth 100000 in
set_option maxHeartbeats 1000000 in
theorem r1_DivMod_lt (A B : Option Addr) (n0 m0 c d : Nat) (X0 Y0 : List Int) (w : World) (hX : DigA w A X0) (hY : DigA w B Y0) (hn : X0.length = n0) (hm : Y0.length = m0) (hc : n0 ≤ c) (hd : m0 ≤ d) (h9 : n0 ≤ 10000000) (h8 : m0 ≤ 10000000) (h0 : nv Y0 ≠ 0) (h1 : 4294967296 ≤ nv Y0) (h2 : nv X0 < nv Y0) :
    Calls Try.prog 127 #[.slice A n0 c, .slice B m0 d] w (RetQRE w (nv X0 / nv Y0) (nv X0 % nv Y0) n0 m0) := by
  have CA : Hid (Calls Try.prog 100 #[.slice A n0 c] w (RetN w (nv X0) n0)) := Lib.hid (r1_Trim A n0 c X0 w hX hn hc (by omega))
  have CB : Hid (∀ w1, Below w.heap.size w w1 → Calls Try.prog 100 #[.slice B m0 d] w1 (RetN w1 (nv Y0) m0)) := Lib.hid fun w1 h => r1_Trim B m0 d Y0 w1 (hY.grow h) hm hd (by omega)
  have H0 : Hid (nv Y0 ≠ 0 ∧ 0 ≤ nv Y0 ∧ 0 ≤ nv X0 ∧ 4294967296 ≤ nv Y0 ∧ nv X0 < nv Y0) := Lib.hid ⟨h0, nv_low hY.dig, nv_low hX.dig, h1, h2⟩
  clear hX hY hn hm hc hd h0 h1 h2
  go_enter Try.func127, Try.ntmps127
  go_upto_region 2 with (go_at_call 100; first
    | ((with_reducible refine CA.out.mono ?_); rintro e1 w1 ⟨v1, X, rfl, o1, n1, m1, k1, hb1⟩; have HX1 := Lib.hid (And.intro o1 (And.intro n1 (And.intro m1 k1))); have HB1 := Lib.hid hb1; clear o1 n1 m1 k1 hb1)
    | ((with_reducible refine (CB.out _ HB1.out).mono ?_); rintro e2 w2 ⟨v2, Y, rfl, o2, n2, m2, k2, hb2⟩; have HY2 := Lib.hid (And.intro o2 (And.intro n2 (And.intro m2 k2))); have HB2 := Lib.hid hb2; clear o2 n2 m2 k2 hb2))
  obtain ⟨XA, xc, rfl, -, -⟩ := HX1.out.1.form
  obtain ⟨YA, yc, rfl, -, -⟩ := HY2.out.1.form
  obtain ⟨p, hp⟩ : ∃ p, X.length = p := ⟨_, rfl⟩
  obtain ⟨m, hm⟩ : ∃ m, Y.length = m := ⟨_, rfl⟩
  have hpn : p ≤ n0 := by have := HX1.out.2.2.2; omega
  have hmn : m ≤ m0 := by have := HY2.out.2.2.2; omega
  have HOX : Hid (OwG w.heap.size w2 (.slice XA p xc) X) := Lib.hid (hp ▸ HX1.out.1.grow HB2.out)
  have HOY : Hid (OwG w.heap.size w2 (.slice YA m yc) Y) := Lib.hid (hm ▸ HY2.out.1.base HB1.out.size)
  have HXY : Hid (nv X = nv X0 ∧ nv Y = nv Y0 ∧ Nrm X ∧ Nrm Y ∧ X.length = p ∧ Y.length = m) := Lib.hid ⟨HX1.out.2.1, HY2.out.2.1, HX1.out.2.2.1, HY2.out.2.2.1, hp, hm⟩
  have HBB := Lib.hid (below_then HB1.out HB2.out)
  have hm1 : m ≠ 0 := fun e => H0.out.1 (by rw [← HXY.out.2.1, List.length_eq_zero_iff.1 (hm.trans e)]; rfl)
  clear HX1 HY2 HB1 HB2 CA CB
  rw [hp, hm]
  clear hp hm
  have hmb : m ≠ 1 := fun e => by
    have h1 := nv_lt HOY.out.dig
    rw [HXY.out.2.2.2.2.2, HXY.out.2.1, e, bp_one] at h1
    have := H0.out
    omega
  have hm0' : (m : Int) ≠ 0 := by omega
  have hmb' : (m : Int) ≠ 1 := by omega
  have CQ : Hid (Calls Try.prog 111 #[.slice XA p xc, .slice YA m yc] w2 fun e w' => e = .returned (.int .i64 (-1)) ∧ Below w2.heap.size w2 w') := Lib.hid (by
    have := r1_Compare XA YA p m xc yc X Y w2 HOX.out.digA HOY.out.digA HXY.out.2.2.2.2.1 HXY.out.2.2.2.2.2 HOX.out.len.2 HOY.out.len.2 (by omega) (by omega)
    rw [HXY.out.1, HXY.out.2.1, show cmpI (nv X0) (nv Y0) = -1 by unfold cmpI; rw [if_pos H0.out.2.2.2.2]] at this
    exact this)
  go_wp2_with (go_at_call 111; (with_reducible refine CQ.out.mono ?_); rintro e3 w3 ⟨rfl, hb3⟩; have HB3 := Lib.hid hb3; clear hb3)
  refine bodyPost_ret (results_tmp3 rfl _ _ _) rfl ?_
  have hx := H0.out
  have hpm : p ≤ m := by
    rcases Nat.lt_or_ge m p with h | h
    · have := nrm_lt HOY.out.dig HOX.out.dig HXY.out.2.2.1 (by rw [HXY.out.2.2.2.2.1, HXY.out.2.2.2.2.2]; exact h)
      rw [HXY.out.1, HXY.out.2.1] at this
      omega
    · exact h
  refine ⟨_, [], _, X, rfl, ⟨OwG.nil, ?_, Nrm.nil, Nat.zero_le _⟩, ⟨HOX.out.grow HB3.out, ?_, HXY.out.2.2.1, by rw [HXY.out.2.2.2.2.1]; omega⟩, below_then HBB.out HB3.out⟩
  · rw [Int.ediv_eq_zero_of_lt hx.2.2.1 hx.2.2.2.2]; rfl
  · rw [Int.emod_eq_of_lt hx.2.2.1 hx.2.2.2.2]; exact HXY.out.1
end Go.Proofs.Ytmdfgidejdiiiaa
end
