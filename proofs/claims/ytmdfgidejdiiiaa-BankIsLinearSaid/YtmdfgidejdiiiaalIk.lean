/- Reference of naturals: DivMod, the long division. Printed by gen_ik.py. -/
import Derived.Test.YtmdfgidejdiiiaalIptoIj
set_option linter.unusedVariables false
set_option linter.unusedSimpArgs false
namespace Go.Proofs.Ytmdfgidejdiiiaa
open Go.RowKit
theorem and_low {a : Int} (h0 : 0 ≤ a) (h1 : a < 18446744073709551616) : bits BinOp.and IntKind.u64 a 4294967295 = a % 4294967296 := by
  obtain ⟨a, rfl⟩ := Int.eq_ofNat_of_zero_le h0
  rw [u64_and _ _ h0 h1 (by omega) (by omega), Int.toNat_natCast, show (4294967295 : Int).toNat = 2 ^ 32 - 1 from rfl, Nat.and_two_pow_sub_one_eq_mod]
  omega
theorem top_one {Nc N0 q W c b x dd bw : Int} {j s : Nat} (h : Nc + bp j * (q * W) = N0 + bp s * (c + b)) (hd : dd = x - (c + b) + 4294967296 * bw) : Nc + bp s * (dd - x) = N0 - bp j * (q * W) + bp (s + 1) * bw := by
  have e1 : bp s * (dd - x) = bp (s + 1) * bw - bp s * (c + b) := by
    rw [hd, bp_succ, Int.mul_comm 4294967296 (bp s), Int.mul_assoc, ← Int.mul_sub]
    congr 1
    omega
  rw [e1]
  omega
theorem back_one {Nc N1 W R x cr y : Int} {j s : Nat} (h : Nc + bp s * cr = N1 + bp j * W) (h2 : N1 + bp j * W = R + bp (s + 1)) (hR : 0 ≤ R) (hy : y = (x + cr) % 4294967296) (hb : (x + cr) / 4294967296 = 0 ∨ (x + cr) / 4294967296 = 1) (hlt : Nc + bp s * (y - x) < bp (s + 1)) : Nc + bp s * (y - x) = R := by
  have h0 := Int.mul_ediv_add_emod (x + cr) 4294967296
  have e1 : bp s * (y - x) + 4294967296 * bp s * ((x + cr) / 4294967296) = bp s * cr := by
    rw [Int.mul_comm 4294967296 (bp s), Int.mul_assoc (bp s), ← Int.mul_add]
    congr 1
    omega
  rw [bp_succ] at h2 hlt
  rcases hb with hk | hk
  · rw [hk, Int.mul_zero] at e1; omega
  · rw [hk, Int.mul_one] at e1; omega
theorem len_shift {y : Int} {k : Nat} (h : LenOf y k) : ∃ s : Nat, (32 : Int) - (k : Int) = (s : Int) ∧ s < 32 ∧ 2147483648 ≤ 2 ^ s * y ∧ 2 ^ s * (y + 1) ≤ 4294967296 := by
  obtain ⟨h1, h2, h3, h4⟩ := h
  refine ⟨32 - k, by omega, by omega, ?_, ?_⟩
  · have e : (2 : Int) ^ (32 - k) * 2 ^ (k - 1) = 2147483648 := by rw [← Int.pow_add, show 32 - k + (k - 1) = 31 by omega]; rfl
    have := mul_mono' h3 (Int.le_of_lt (pow2_pos (32 - k)))
    omega
  · have e : (2 : Int) ^ (32 - k) * 2 ^ k = 4294967296 := by rw [← Int.pow_add, show 32 - k + k = 32 by omega]; rfl
    have := mul_mono' (show y + 1 ≤ 2 ^ k by omega) (Int.le_of_lt (pow2_pos (32 - k)))
    omega
set_option maxRecDepth 100000 in
set_option maxHeartbeats 8000000 in
theorem r1_DivMod_big (A B : Option Addr) (n0 m0 c d : Nat) (X0 Y0 : List Int) (w : World) (hX : DigA w A X0) (hY : DigA w B Y0) (hn : X0.length = n0) (hm : Y0.length = m0) (hc : n0 ≤ c) (hd : m0 ≤ d) (h9 : n0 ≤ 10000000) (h8 : m0 ≤ 10000000) (h0 : nv Y0 ≠ 0) (h1 : 4294967296 ≤ nv Y0) (h2 : nv Y0 ≤ nv X0) :
    Calls Try.prog 127 #[.slice A n0 c, .slice B m0 d] w (RetQRE w (nv X0 / nv Y0) (nv X0 % nv Y0) n0 m0) := by
  have CA : Hid (Calls Try.prog 100 #[.slice A n0 c] w (RetN w (nv X0) n0)) := Lib.hid (r1_Trim A n0 c X0 w hX hn hc (by omega))
  have CB : Hid (∀ w1, Below w.heap.size w w1 → Calls Try.prog 100 #[.slice B m0 d] w1 (RetN w1 (nv Y0) m0)) := Lib.hid fun w1 h => r1_Trim B m0 d Y0 w1 (hY.grow h) hm hd (by omega)
  have H0 : Hid (nv Y0 ≠ 0 ∧ 0 ≤ nv Y0 ∧ 0 ≤ nv X0 ∧ 4294967296 ≤ nv Y0 ∧ nv Y0 ≤ nv X0) := Lib.hid ⟨h0, nv_low hY.dig, nv_low hX.dig, h1, h2⟩
  clear hX hY hn hm hc hd h0 h1 h2
  go_enter Try.func127, Try.ntmps127
  go_upto_region 2 with (go_at_call 100; first
    | ((with_reducible refine CA.out.mono ?_); rintro e1 w1 ⟨v1, X, rfl, o1, n1, m1, k1, hb1⟩; have HX1 := Lib.hid (And.intro o1 (And.intro n1 (And.intro m1 k1))); have HB1 := Lib.hid hb1; clear o1 n1 m1 k1 hb1)
    | ((with_reducible refine (CB.out _ HB1.out).mono ?_); rintro e2 w2 ⟨v2, Y, rfl, o2, n2, m2, k2, hb2⟩; have HY2 := Lib.hid (And.intro o2 (And.intro n2 (And.intro m2 k2))); have HB2 := Lib.hid hb2; clear o2 n2 m2 k2 hb2))
  obtain ⟨XA, xc, rfl, -, -⟩ := HX1.out.1.form
  obtain ⟨YA, yc, rfl, -, -⟩ := HY2.out.1.form
  obtain ⟨p, hp⟩ : ∃ p, X.length = p := ⟨_, rfl⟩
  obtain ⟨m, hm⟩ : ∃ m, Y.length = m := ⟨_, rfl⟩
  have hpn : p ≤ n0 := by have := HX1.out.2.2.2; omega
  have hmn : m ≤ m0 := by have := HY2.out.2.2.2; omega
  have HOX : Hid (OwG w.heap.size w2 (.slice XA p xc) X) := Lib.hid (hp ▸ HX1.out.1.grow HB2.out)
  have HOY : Hid (OwG w.heap.size w2 (.slice YA m yc) Y) := Lib.hid (hm ▸ HY2.out.1.base HB1.out.size)
  have HXY : Hid (nv X = nv X0 ∧ nv Y = nv Y0 ∧ Nrm X ∧ Nrm Y ∧ X.length = p ∧ Y.length = m) := Lib.hid ⟨HX1.out.2.1, HY2.out.2.1, HX1.out.2.2.1, HY2.out.2.2.1, hp, hm⟩
  have HBB := Lib.hid (below_then HB1.out HB2.out)
  have hm1 : m ≠ 0 := fun e => H0.out.1 (by rw [← HXY.out.2.1, List.length_eq_zero_iff.1 (hm.trans e)]; rfl)
  clear HX1 HY2 HB1 HB2 CA CB
  rw [hp, hm]
  clear hp hm
  have hmb : 2 ≤ m := by
    rcases Nat.lt_or_ge m 2 with h | h
    · exfalso
      have h1 := nv_lt HOY.out.dig
      rw [HXY.out.2.2.2.2.2, HXY.out.2.1, show m = 1 by omega, bp_one] at h1
      have := H0.out
      omega
    · exact h
  have hmp : m ≤ p := by
    rcases Nat.lt_or_ge p m with h | h
    · have := nrm_lt HOX.out.dig HOY.out.dig HXY.out.2.2.2.1 (by rw [HXY.out.2.2.2.2.1, HXY.out.2.2.2.2.2]; exact h)
      rw [HXY.out.1, HXY.out.2.1] at this
      have := H0.out
      omega
    · exact h
  have hm0' : (m : Int) ≠ 0 := by omega
  have hmb' : (m : Int) ≠ 1 := by omega
  obtain ⟨R, hR⟩ : ∃ R, cmpI (nv X0) (nv Y0) = R := ⟨_, rfl⟩
  have hR0 : 0 ≤ R := by rw [← hR]; unfold cmpI; rw [if_neg (by have := H0.out; omega)]; split <;> omega
  have CQ : Hid (Calls Try.prog 111 #[.slice XA p xc, .slice YA m yc] w2 fun e w' => e = .returned (.int .i64 R) ∧ Below w2.heap.size w2 w') := Lib.hid (by
    have := r1_Compare XA YA p m xc yc X Y w2 HOX.out.digA HOY.out.digA HXY.out.2.2.2.2.1 HXY.out.2.2.2.2.2 HOX.out.len.2 HOY.out.len.2 (by omega) (by omega)
    rw [HXY.out.1, HXY.out.2.1, hR] at this
    exact this)
  obtain ⟨m1, hm1'⟩ : ∃ k, m = k + 1 := ⟨m - 1, by omega⟩
  obtain ⟨gy, rfl, -⟩ := HOY.out.some (by omega)
  obtain ⟨y1, hy1⟩ : ∃ y, Y[m1]? = some y := ⟨_, List.getElem?_eq_getElem (by rw [HXY.out.2.2.2.2.2]; omega)⟩
  obtain ⟨y1a, y1b⟩ := HOY.out.dig.at_ hy1
  have hy0 : 0 < y1 := by have := HXY.out.2.2.2.1 m1 y1 (by rw [HXY.out.2.2.2.2.2]; omega) hy1; omega
  have hyc : m ≤ yc := HOY.out.len.2
  have hdr : Y.drop m1 = [y1] := by
    obtain ⟨l1, e1⟩ := List.getElem?_eq_some_iff.1 hy1
    rw [List.drop_eq_getElem_cons l1, e1, List.drop_of_length_le (by rw [HXY.out.2.2.2.2.2]; omega)]
  have CBL : Hid (∀ w3 cc, Below w2.heap.size w2 w3 → 1 ≤ cc → Calls Try.prog 135 #[.slice (some ⟨gy, m1, none⟩) (m - m1) cc] w3 fun e w' => (∃ k, e = .returned (.int .i64 (k : Nat)) ∧ LenOf y1 k) ∧ Below w3.heap.size w3 w') := Lib.hid fun w3 cc hb hcc => by
    have hD := (HOY.out.digA.grow hb).dropL (k := m1) (c := yc) (by rw [HXY.out.2.2.2.2.2]; exact hyc)
    rw [if_neg (by omega), hdr] at hD
    have hD' : DigA w3 (some ⟨gy, m1, none⟩) [y1] := by
      have e : (Option.some (⟨gy, 0, none⟩ : Addr)).map (fun x => x.add m1) = some ⟨gy, m1, none⟩ := by simp [Addr.add]; try omega
      rw [e] at hD
      exact hD
    rw [show m - m1 = 1 by omega]
    exact r1_BitLen _ cc y1 w3 hD' hcc (by omega)
  have q3 : IntKind.i64.wrap ((m : Int) - 1) = (m1 : Int) := (IntWalk.i64_in _ (by omega)).trans (by omega)
  have q3' : (m : Int) - 1 = (m1 : Int) := by omega
  have x0 : (m1 : Int) ≤ (m : Int) := by omega
  have x5 : yc ≠ m1 := by omega
  have x6 : m1 ≤ m := by omega
  have x7 : 1 ≤ yc - m1 := by omega
  have HY1 := Lib.hid (And.intro hy1 (And.intro hm1' (And.intro hy0 y1b)))
  clear hdr hy1 hm1' y1a y1b hy0 hR hm1
  go_upto_region 10 with (first
    | (go_at_call 111; (with_reducible refine CQ.out.mono ?_); rintro e3 w3 ⟨rfl, hb3⟩; have HB3 := Lib.hid hb3; clear hb3)
    | (go_at_call 135; (with_reducible refine (CBL.out _ _ HB3.out x7).mono ?_); rintro e4 w4 ⟨⟨bl, rfl, hbl⟩, hb4⟩; obtain ⟨s, hs, hs32, hsl, hsh⟩ := len_shift hbl; have q6 : IntKind.i64.wrap (32 - (bl : Int)) = (s : Int) := hs ▸ IntWalk.i64_in _ (by omega); have HSS := Lib.hid (And.intro hsl hsh); have HB4 := Lib.hid hb4; clear hb4 hbl hsl hsh))
  have hx0 := H0.out
  have hps := pow2_pos s
  have hpu := pow_up hs32
  have HB34 := Lib.hid (below_then HB3.out HB4.out)
  have hxl : nv X < bp p := by have := nv_lt HOX.out.dig; rw [HXY.out.2.2.2.2.1] at this; exact this
  have hxl0 := nv_low HOX.out.dig
  have hyl0 := nv_low HOY.out.dig
  have hyp : 0 < nv Y := by have := HXY.out.2.1; omega
  have hxp : 0 < nv X := by have := HXY.out.1; have := HXY.out.2.1; omega
  have hbm := bp_pos m1
  have hty : nv Y = nv (Y.take m1) + bp m1 * y1 := by
    have := nv_take HY1.out.1
    rw [take_len (by rw [HXY.out.2.2.2.2.2]; have := HY1.out.2.1; omega)] at this
    exact this
  have hy2 := nv_lt (HOY.out.dig.take m1)
  rw [List.length_take, Nat.min_eq_left (by rw [HXY.out.2.2.2.2.2]; omega)] at hy2
  have hy3 := nv_low (HOY.out.dig.take m1)
  have hy0 := HY1.out.2.2.1
  have hbig : ∀ z, p + 1 ≤ m + z → 2 ^ s * nv X < bp z * (2 ^ s * nv Y) := fun z hz => by
    have a1 : bp p ≤ bp z * bp m1 := by rw [← bp_add]; exact bp_le (by have := HY1.out.2.1; omega)
    have a2 := mul_mono' (a := bp m1) (b := nv Y) (c := bp z) (by have := mul_mono' (a := 1) (b := y1) (c := bp m1) (by omega) (by omega); omega) (by have := bp_pos z; omega)
    have a3 : 2 ^ s * nv X < 2 ^ s * (bp z * nv Y) := Int.mul_lt_mul_of_pos_left (by omega) hps
    rw [Int.mul_left_comm] at a3
    exact a3
  have hfy : 2 ^ s * nv Y < bp m := by
    rw [HY1.out.2.1, bp_succ]
    have a1 := mul_mono' (a := nv Y + 1) (b := bp m1 * (y1 + 1)) (c := 2 ^ s) (by rw [Int.mul_add]; omega) (by omega)
    have a2 := mul_mono' (a := 2 ^ s * (y1 + 1)) (b := 4294967296) (c := bp m1) HSS.out.2 (by omega)
    rw [Int.mul_left_comm] at a2
    rw [Int.mul_add, Int.mul_one] at a1
    omega
  have hty2 : bp m1 * 2147483648 ≤ 2 ^ s * nv Y := by
    have a2 := mul_mono' (a := 2147483648) (b := 2 ^ s * y1) (c := bp m1) HSS.out.1 (by omega)
    rw [Int.mul_left_comm] at a2
    have a3 := mul_mono' (a := bp m1 * y1) (b := nv Y) (c := 2 ^ s) (by omega) (by omega)
    omega
  have hxge : bp (p - 1) ≤ 2 ^ s * nv X := by
    have h1 := nrm_le HOX.out.dig HXY.out.2.2.1 (by intro e; rw [e] at hxp; simp [nv] at hxp)
    rw [HXY.out.2.2.2.2.1] at h1
    have h2 := mul_mono (a := 1) (b := 2 ^ s) (c := nv X) (by omega) hxl0
    omega
  have CU : Hid (Calls Try.prog 136 #[.slice XA p xc, .int .i64 s] w4 (RetN w4 (2 ^ s * nv X) (p + 1))) := Lib.hid (r1_ShiftL XA p xc s X w4 (HOX.out.digA.grow HB34.out) HXY.out.2.2.2.2.1 HOX.out.len.2 (by omega) hs32)
  have CV : Hid (∀ w5, Below w4.heap.size w4 w5 → Calls Try.prog 136 #[.slice (some ⟨gy, 0, none⟩) m yc, .int .i64 s] w5 (RetN w5 (2 ^ s * nv Y) (m + 1))) := Lib.hid fun w5 hb => r1_ShiftL _ m yc s Y w5 ((HOY.out.digA.grow HB34.out).grow hb) HXY.out.2.2.2.2.2 HOY.out.len.2 (by omega) hs32
  obtain ⟨VX, hVX⟩ : ∃ v, 2 ^ s * nv X = v := ⟨_, rfl⟩
  obtain ⟨VY, hVY⟩ : ∃ v, 2 ^ s * nv Y = v := ⟨_, rfl⟩
  rw [hVX] at CU hxge
  rw [hVY] at CV hfy hty2
  have hVY0 : 0 < VY := by rw [← hVY]; exact Int.mul_pos hps hyp
  have HBIG : Hid (∀ z, p + 1 ≤ m + z → VX < bp z * VY) := Lib.hid fun z hz => by have := hbig z hz; rw [hVX, hVY] at this; exact this
  have HF := Lib.hid (And.intro hfy (And.intro hty2 (And.intro hVY0 hxge)))
  have HXYV := Lib.hid (And.intro hVX hVY)
  clear hx0 hpu hxl hxl0 hyl0 hyp hxp hbm hty hy2 hy3 hy0 hbig hfy hty2 hVY0 hxge hVX hVY hps
  go_upto_region 11 with (go_at_call 136; first
    | ((with_reducible refine CU.out.mono ?_); rintro e5 w5 ⟨v5, LU, rfl, o5, n5, r5, k5, hb5⟩; have HU := Lib.hid (And.intro o5 (And.intro n5 (And.intro r5 k5))); have HB5 := Lib.hid hb5; clear o5 n5 r5 k5 hb5)
    | ((with_reducible refine (CV.out _ HB5.out).mono ?_); rintro e6 w6 ⟨v6, LV, rfl, o6, n6, r6, k6, hb6⟩; have HV := Lib.hid (And.intro o6 (And.intro n6 (And.intro r6 k6))); have HB6 := Lib.hid hb6; clear o6 n6 r6 k6 hb6))
  obtain ⟨UA, uc, rfl, -, -⟩ := HU.out.1.form
  obtain ⟨VA, vc, rfl, -, -⟩ := HV.out.1.form
  obtain ⟨l0, hl0⟩ : ∃ l, LU.length = l := ⟨_, rfl⟩
  have hlv : LV.length = m := by
    have h1 := nrm_len HV.out.1.dig HV.out.2.2.1 (k := m) (by rw [HV.out.2.1]; exact HF.out.1)
    have h2 := nv_lt HV.out.1.dig
    rw [HV.out.2.1] at h2
    have h3 := HF.out.2.1
    have h4 := HY1.out.2.1
    rcases Nat.lt_or_ge LV.length m with h | h
    · have h5 := bp_le (show LV.length ≤ m1 by omega)
      have h6 := bp_pos m1
      omega
    · omega
  have hl0p : p ≤ l0 := by
    have h2 := nv_lt HU.out.1.dig
    rw [HU.out.2.1, hl0] at h2
    have h3 := HF.out.2.2.2
    rcases Nat.lt_or_ge l0 p with h | h
    · have h5 := bp_le (show l0 ≤ p - 1 by omega)
      omega
    · exact h
  have hl0q : l0 ≤ p + 1 := by rw [← hl0]; exact HU.out.2.2.2
  have HU6 := HU.out.1.grow HB6.out
  have HV6 := HV.out.1
  rw [hl0] at HU6 ⊢
  rw [hlv] at HV6 ⊢
  have HUV : Hid (nv LU = VX ∧ nv LV = VY ∧ LU.length = l0 ∧ LV.length = m) := Lib.hid ⟨HU.out.2.1, HV.out.2.1, hl0, hlv⟩
  obtain ⟨gu, rfl, -⟩ := HU6.some (by omega)
  obtain ⟨gv, rfl, -⟩ := HV6.some (by omega)
  have hbu := (hl0 ▸ HU.out.1).block
  have hbv := HV6.block
  have hb6 := below_then (below_then (below_then HBB.out HB34.out) HB5.out) HB6.out
  have hba : Below w6.heap.size w6 (w6.alloc (.cells #[.int .u32 0] 77)) := (Below.refl _ _).alloc (Nat.le_refl _) _
  have hUa := HU6.grow hba
  have hVa := HV6.grow hba
  have hIa := (digA_one (w := w6) (x := 0) (by omega)).digA
  have hsa : w4.heap.size ≤ (w6.alloc (.cells #[.int .u32 0] 77)).heap.size := by have := (below_then (below_then HB5.out HB6.out) hba).size; exact this
  have hna : LU.length + ([0] : List Int).length ≤ 100000000 := by rw [hl0]; simp; omega
  have HBA := Lib.hid (And.intro (below_then hb6 hba) (And.intro hVa (And.intro hbu (And.intro hbv hb6.size))))
  have hb4s : w.heap.size ≤ w4.heap.size := (below_then HBB.out HB34.out).size
  have HB4S := Lib.hid hb4s
  clear hbu hbv hb6 hba hVa HU6 HV6 HU HV hl0 hlv CU CV hb4s
  go_upto_region 12 with (at_builtin; refine app_digs _ rfl _ _ rfl w4.heap.size (m := [0]) rfl rfl hUa hIa hna hsa ?_; intro v7 w7 ho7 hg7 hor7; have HO7 := Lib.hid ho7; have HG7 := Lib.hid (And.intro hg7 hor7); clear ho7 hg7 hor7)
  clear hUa hIa hna hsa
  obtain ⟨A7, c7, rfl, -, -⟩ := HO7.out.form
  obtain ⟨N, hN⟩ : ∃ N, (LU ++ [0]).length = N := ⟨_, rfl⟩
  have hNl : N = l0 + 1 := by rw [← hN, List.length_append, HUV.out.2.2.1]; rfl
  have HO7' := HO7.out
  rw [hN] at HO7' ⊢
  obtain ⟨gw, rfl, -⟩ := HO7'.some (by omega)
  have hgne : gw ≠ gv := by
    have h1 := HBA.out
    rcases HG7.out.2 with h | h
    · have e : gw = gu := by injection h
      have := h1.2.2.1.2; have := h1.2.2.2.1.1; omega
    · have e : gw = (w6.alloc (.cells #[.int .u32 0] 77)).heap.size := by injection h
      have := h1.2.2.2.1.2; rw [World.size_alloc] at e; omega
  have hVo : OwG w5.heap.size w7 (.slice (some ⟨gv, 0, none⟩) m vc) LV := HBA.out.2.1.kept HG7.out.1 (fun e => by
    have h1 := HBA.out
    have : gv = gu := by injection e
    have := h1.2.2.1.2; have := h1.2.2.2.1.1; omega)
  have HB7 : Hid (Below w.heap.size w w7) := Lib.hid (put_facts (g := gu) HBA.out.1 (by have := HBA.out.2.2.1.1; have := HB4S.out; omega) HG7.out.1)
  have HOU : Hid (OwG w.heap.size w7 (.slice (some ⟨gw, 0, none⟩) N c7) (LU ++ [0])) := Lib.hid (HO7'.base HB4S.out)
  have HOV : Hid (OwG w.heap.size w7 (.slice (some ⟨gv, 0, none⟩) m vc) LV ∧ gv < w7.heap.size ∧ gw < w7.heap.size) := Lib.hid ⟨hVo.base (below_then (below_then HBB.out HB34.out) HB5.out).size, hVo.block.2, HO7'.block.2⟩
  have HNU : Hid (nv (LU ++ [0]) = VX) := Lib.hid (by rw [nv_app, HUV.out.1]; simp [nv])
  have HNE := Lib.hid hgne
  have HWG : Hid (w.heap.size ≤ gw ∧ w.heap.size ≤ gv) := Lib.hid ⟨(HO7'.base HB4S.out).block.1, by have := hVo.block.1; have := (below_then (below_then HBB.out HB34.out) HB5.out).size; omega⟩
  generalize hLL : LU ++ [0] = L0 at HOU HNU
  clear hLL hN HO7 HO7' HG7 HBA hgne hVo HB4S HB5 HB6 HB3 HB4 HB34 HBB CBL CQ hs q6 HSS x5 x6 x7
  have hNp : (p : Int) + 1 ≤ (N : Int) := by omega
  have hNp' : ¬ (N : Int) < (p : Int) + 1 := by omega
  have hN9 : N ≤ 10000002 := by omega
  have HNL := Lib.hid hNl
  clear hNl
  go_wp2_with fail
  go_loopw [10] (fun u wr => u = .slice (some ⟨gw, 0, none⟩) N c7 ∧ wr = w7) (fun _ _ => 0)
  case atStart => exact ⟨rfl, rfl⟩
  case round =>
    obtain ⟨rfl, rfl⟩ := hrel
    obtain ⟨z, hz⟩ : ∃ z, m + z = N := ⟨N - m, by omega⟩
    have z1 : IntKind.i64.wrap ((N : Int) - (m : Int)) = (z : Int) := (IntWalk.i64_in _ (by omega)).trans (by omega)
    have z2 : (N : Int) - (m : Int) = (z : Int) := by omega
    have z3 : IntKind.i64.wrap ((z : Int) - 1) = (z : Int) - 1 := IntWalk.i64_in _ (by omega)
    have HZN := Lib.hid (And.intro hz HNL.out)
    have hz9 : z ≤ 10000002 := by omega
    have hsz := HB7.out.size
    clear hz
    go_upto_region 16 with ((with_reducible show wpList _ _ _ (Oper.mk _ (.makeSlice _ _ _) _ _ _ _ :: _) _ _); refine mk_dig rfl _ _ rfl w.heap.size z rfl rfl rfl (by omega) hsz ?_; intro w8 ho8 hb8; have HO8 := Lib.hid ho8; have HB8 := Lib.hid hb8; clear ho8 hb8)
    obtain ⟨gq, hgq⟩ : ∃ g, g = wr.heap.size := ⟨_, rfl⟩
    have hga := HOV.out
    have hgw := HOU.out.block.2
    have HGQ : Hid (gq ≠ gw ∧ gq ≠ gv ∧ w.heap.size ≤ gq) := Lib.hid ⟨by omega, by omega, by omega⟩
    have HO8' : Hid (OwG w.heap.size w8 (.slice (some ⟨gq, 0, none⟩) z z) (List.replicate z 0)) := Lib.hid (by rw [hgq]; exact HO8.out)
    have HU8 := Lib.hid (HOU.out.grow HB8.out)
    have HV8 := Lib.hid (HOV.out.1.grow HB8.out)
    have HW8 := Lib.hid (below_then HB7.out HB8.out)
    have HBZ : Hid (VX < bp z * VY) := Lib.hid (HBIG.out z (by have := HZN.out; omega))
    obtain ⟨VQ, hVQ⟩ : ∃ v, nv X0 / nv Y0 = v := ⟨_, rfl⟩
    obtain ⟨VR, hVR⟩ : ∃ v, nv X0 % nv Y0 = v := ⟨_, rfl⟩
    rw [hVQ, hVR]
    have HQR := Lib.hid (And.intro hVQ hVR)
    rw [← hgq]
    clear hgq hga hgw HO8 HB8 HOV HOU HB7 HBIG hsz hVQ hVR
    go_upto_region 17 with fail
    go_wp2_with fail
    go_loopw [14] (fun i wr => ∃ (k : Nat) (t : Int) (Lu D : List Int), k ≤ z ∧ i = .int .i64 t ∧ Hid (t = (k : Int) - 1) ∧ Hid (nv Lu + bp k * (nv D * VY) = VX) ∧ Hid (nv Lu < bp k * VY) ∧ Hid (OwG w.heap.size wr (.slice (some ⟨gw, 0, none⟩) N c7) Lu) ∧ Hid (OwG w.heap.size wr (.slice (some ⟨gq, 0, none⟩) z z) (List.replicate k 0 ++ D)) ∧ Hid (OwG w.heap.size wr (.slice (some ⟨gv, 0, none⟩) m vc) LV) ∧ Hid (Below w.heap.size w wr)) (fun i _ => (intOf i + 1).toNat)
    case atStart => exact ⟨z, (z : Int) - 1, L0, [], Nat.le_refl _, rfl, Lib.hid rfl, Lib.hid (by rw [HNU.out]; simp [nv]), Lib.hid (by rw [HNU.out]; exact HBZ.out), HU8, Lib.hid (by rw [List.append_nil]; exact HO8'.out), HV8, HW8⟩
    case round =>
      rename World => wq
      obtain ⟨k, t, Lu, D, hk, rfl, HT, HS, HLT, HOU, HOQ, HVV, HBW⟩ := hrel
      have hzn := HZN.out
      by_cases hk0 : k = 0
      · subst hk0
        obtain rfl : t = -1 := by have := HT.out; omega
        have hps' := pow2_pos s
        have hx0 := H0.out
        have hyp : 0 < nv Y0 := by omega
        have hsum : nv D = VQ ∧ nv Lu = 2 ^ s * VR := by
          have h1 := HS.out
          have h3 := HLT.out
          rw [bp_zero, Int.one_mul] at h1 h3
          have h4 := nv_low HOU.out.dig
          have h5 := HXYV.out
          have h50 := HF.out.2.2.1
          have h6 : VX / VY = nv D := by
            rw [← h1, Int.mul_comm, Int.add_mul_ediv_left _ _ (by omega), Int.ediv_eq_zero_of_lt h4 h3]; omega
          have h7 : VX % VY = nv Lu := by
            rw [← h1, Int.add_mul_emod_self_right, Int.emod_eq_of_lt h4 h3]
          rw [← h5.1, ← h5.2, HXY.out.1, HXY.out.2.1, Int.mul_ediv_mul_of_pos _ _ hps'] at h6
          rw [← h5.1, ← h5.2, HXY.out.1, HXY.out.2.1, Int.mul_emod_mul_of_pos _ _ hps'] at h7
          exact ⟨h6.symm.trans HQR.out.1, by rw [← h7, HQR.out.2]⟩
        have hvm : VY < bp m := HF.out.1
        have hlt : nv Lu < bp m := by have h3 := HLT.out; rw [bp_zero, Int.one_mul] at h3; omega
        have hlu := HOU.out.len.1
        have htk := (zero_lt HOU.out.dig (zero_of_lt HOU.out.dig hlt) (by rw [hlu]; omega)).1
        have ho := HOQ.out
        rw [List.replicate_zero, List.nil_append] at ho
        have HOC := Lib.hid (HOU.out.cut (k := m) (by omega))
        have hyl : nv Y0 < bp m := by have := nv_lt HOY.out.dig; rw [HXY.out.2.2.2.2.2, HXY.out.2.1] at this; exact this
        have hxl : nv X0 < bp p := by have := nv_lt HOX.out.dig; rw [HXY.out.2.2.2.2.1, HXY.out.1] at this; exact this
        have hVR : VR < bp m ∧ 0 ≤ VR := by rw [← HQR.out.2]; have := Int.emod_lt_of_pos (nv X0) hyp; exact ⟨by omega, Int.emod_nonneg _ (by omega)⟩
        have hVQ : VQ < bp n0 := by
          rw [← HQR.out.1]
          have h1 := Int.ediv_le_self (nv Y0) hx0.2.2.1
          have h2 := bp_le hpn
          omega
        have CC : Hid (∀ w9, Below wq.heap.size wq w9 → Calls Try.prog 100 #[.slice (some ⟨gq, 0, none⟩) z z] w9 (RetN w9 VQ n0)) := Lib.hid fun w9 hb => by
          have h := r1_Trim (some ⟨gq, 0, none⟩) z z D w9 (ho.grow hb).digA ho.len.1 (Nat.le_refl _) (by omega)
          rw [hsum.1] at h
          exact h.mono fun _ _ h => h.short hVQ
        have CW : Hid (∀ w9, Below wq.heap.size wq w9 → Calls Try.prog 136 #[.slice (some ⟨gw, 0, none⟩) m c7, .int .i64 (-(s : Int))] w9 (RetN w9 VR m0)) := Lib.hid fun w9 hb => by
          have hD := (HOC.out.grow hb).digA
          have hl := HOC.out.len
          rcases Nat.eq_zero_or_pos s with h | h
          · subst h
            have h := r1_ShiftL (some ⟨gw, 0, none⟩) m c7 0 (Lu.take m) w9 hD hl.1 hl.2 (by omega) (by omega)
            rw [← htk, hsum.2, Int.pow_zero, Int.one_mul, Int.one_mul] at h
            exact h.mono fun _ _ h => (h.short hVR.1).le hmn
          · have h := r1_ShiftR (some ⟨gw, 0, none⟩) m c7 s (Lu.take m) w9 hD hl.1 hl.2 (by omega) hs32 h
            rw [← htk, hsum.2, Int.mul_ediv_cancel_left _ (by omega)] at h
            exact h.mono fun _ _ h => h.le hmn
        have x5 : m ≤ c7 := by have := HOC.out.len; omega
        have x6 : (m : Int) ≤ (c7 : Int) := by omega
        have x7 : m ≤ N := by omega
        clear hsum hvm hlt hlu htk ho hyl hxl hVR hVQ hps' hx0 hyp HS HLT HOU HOQ HVV HT
        go_upto_region 57 with fail
        refine wp_region_grow7 (fun i => Nat.blt i 8) (fun _ => false) (fun w9 => Below wq.heap.size wq w9) (gT [.v (.slice (some ⟨gq, 0, none⟩) z z), .num VQ n0, .v (.slice (some ⟨gw, 0, none⟩) N c7), .v (.int .i64 m), .v (.slice (some ⟨gw, 0, none⟩) m c7), .v (.int .i64 s), .v (.int .i64 (-(s : Int))), .num VR m0]) (fun a b => Below a.heap.size a b) (dT wq.heap.size [.v (.slice (some ⟨gq, 0, none⟩) z z), .num VQ n0, .v (.slice (some ⟨gw, 0, none⟩) N c7), .v (.int .i64 m), .v (.slice (some ⟨gw, 0, none⟩) m c7), .v (.int .i64 s), .v (.int .i64 (-(s : Int))), .num VR m0]) (by kernel_rfl) (by kernel_rfl) (Below.refl _ _).drew (fun j x a b h1 h2 => ⟨below_then h1 h2.1, fun i _ v => dT_keep h2.1 i v, Below.refl _ _, fun w0 h => below_then h h2.1⟩) (fun j v w h => by cases h) ?_ (fun j o _ _ h => by cases h) ?_
        · refine ⟨?_, ?_, ?_, ?_, ?_, ?_, ?_, ?_, trivial⟩
          all_goals
            intro vs w9 hp hF
            have HP := Lib.hid hp
            clear hp
            simp [depsB, Region.binds, dT] at hF
            simp [stL, depsB, Region.binds, Act.put, hF]
          · (go_wp2_with fail; exact ⟨rfl, Below.refl _ _, nbx rfl⟩)
          · go_wp2_with (go_at_call 100; (with_reducible refine (CC.out _ HP.out).mono ?_); intro e1 w1' h1; obtain ⟨v1, rfl, o1, hb1⟩ := h1.num (b := wq.heap.size) HP.out.size)
            exact ⟨o1, hb1, nbx rfl⟩
          · (go_wp2_with fail; exact ⟨rfl, Below.refl _ _, nbx rfl⟩)
          · (go_wp2_with fail; exact ⟨rfl, Below.refl _ _, nbx rfl⟩)
          · (go_wp2_with fail; exact ⟨rfl, Below.refl _ _, nbx rfl⟩)
          · (go_wp2_with fail; exact ⟨rfl, Below.refl _ _, nbx rfl⟩)
          · (go_wp2_with fail; exact ⟨rfl, Below.refl _ _, nbx rfl⟩)
          · go_wp2_with (go_at_call 136; (with_reducible refine (CW.out _ HP.out).mono ?_); intro e1 w1' h1; obtain ⟨v1, rfl, o1, hb1⟩ := h1.num (b := wq.heap.size) HP.out.size)
            exact ⟨o1, hb1, nbx rfl⟩
        intro vs w9 hp hF hpr
        have e1 : NumO wq.heap.size w9 (vs 1) VQ n0 := hF 1 (by decide) rfl
        have e7 : NumO wq.heap.size w9 (vs 7) VR m0 := hF 7 (by decide) rfl
        have HE := Lib.hid (And.intro e1 (And.intro e7 (below_then HBW.out hp)))
        clear e1 e7 hp hF hpr
        show wpList Try.prog _ _ [_, _, _] _ _
        simp [stL, Act.put]
        generalize vs 0 = z0' at HE ⊢
        generalize vs 1 = z1' at HE ⊢
        generalize vs 2 = z2' at HE ⊢
        generalize vs 3 = z3' at HE ⊢
        generalize vs 4 = z4' at HE ⊢
        generalize vs 5 = z5' at HE ⊢
        generalize vs 6 = z6' at HE ⊢
        generalize vs 7 = z7' at HE ⊢
        go_wp2_with fail
        refine bodyPost_ret (results_tmp3 rfl _ _ _) rfl ?_
        obtain ⟨⟨A1, c1, l1, rfl, h1⟩, ⟨A2, c2, l2, rfl, h2⟩, h3⟩ := HE.out
        rw [HQR.out.1, HQR.out.2]
        exact ⟨_, l1, _, l2, rfl, ⟨h1.1.base HBW.out.size, h1.2⟩, ⟨h2.1.base HBW.out.size, h2.2⟩, h3⟩
      · obtain ⟨j, rfl⟩ : ∃ j, k = j + 1 := ⟨k - 1, by omega⟩
        obtain rfl : t = (j : Int) := by have := HT.out; omega
        obtain ⟨hlu, -⟩ := HOU.out.len
        have hlv := HUV.out.2.2.2
        have hvm : VY < bp m := HF.out.1
        have hzf : ZeroFrom Lu (j + m + 1) := zero_of_lt HOU.out.dig (by
          have h1 := HLT.out
          have h3 := mul_mono' (a := VY) (b := bp m) (c := bp (j + 1)) (by omega) (by have := bp_pos (j + 1); omega)
          rw [← bp_add, show j + 1 + m = j + m + 1 by omega] at h3
          omega)
        have hsg := seg_split (j := j) (n := m) hzf (by omega)
        have hbj := bp_pos j
        have hUB : nv ((Lu.drop j).take (m + 1)) < 4294967296 * nv LV := by
          have h1 := HLT.out
          have h2 := nv_low (HOU.out.dig.take j)
          rw [bp_succ, Int.mul_comm 4294967296, Int.mul_assoc] at h1
          rw [HUV.out.2.1]
          have h3 : bp j * nv ((Lu.drop j).take (m + 1)) < bp j * (4294967296 * VY) := by omega
          exact Int.lt_of_mul_lt_mul_left h3 (by omega)
        have hm1e := HY1.out.2.1
        obtain ⟨m2, hm2⟩ : ∃ k, m = k + 2 := ⟨m - 2, by omega⟩
        obtain ⟨u0, hu0⟩ : ∃ x, Lu[j + m]? = some x := ⟨_, List.getElem?_eq_getElem (by omega)⟩
        obtain ⟨u1, hu1⟩ : ∃ x, Lu[j + m1]? = some x := ⟨_, List.getElem?_eq_getElem (by omega)⟩
        obtain ⟨u2, hu2⟩ : ∃ x, Lu[j + m2]? = some x := ⟨_, List.getElem?_eq_getElem (by omega)⟩
        obtain ⟨v1, hv1⟩ : ∃ x, LV[m1]? = some x := ⟨_, List.getElem?_eq_getElem (by omega)⟩
        obtain ⟨v2, hv2⟩ : ∃ x, LV[m2]? = some x := ⟨_, List.getElem?_eq_getElem (by omega)⟩
        have hv31 : 2147483648 ≤ v1 := top_dig (m := m1) HVV.out.dig hv1 (by omega) (by rw [HUV.out.2.1]; exact HF.out.2.1)
        obtain ⟨U, Q, ul, vl, top, hUe, hQ, htp, hG, ⟨hW0, hQ0, hQ1, hQ2, hQB⟩, hu0v, hLU, hlo⟩ := digit_plain HOU.out.dig HVV.out.dig (by omega) hlv hm1e hm2 hzf hu0 hu1 hu2 hv1 hv2 hv31 hUB
        rw [HUV.out.2.1] at hG hW0 hQ1 hQ2
        obtain ⟨u0a, u0b⟩ := HOU.out.dig.at_ hu0
        obtain ⟨u1a, u1b⟩ := HOU.out.dig.at_ hu1
        obtain ⟨u2a, u2b⟩ := HOU.out.dig.at_ hu2
        obtain ⟨v1a, v1b⟩ := HVV.out.dig.at_ hv1
        obtain ⟨v2a, v2b⟩ := HVV.out.dig.at_ hv2
        obtain ⟨RR, hRR⟩ : ∃ R, nv Lu - bp j * (Q * VY) = R := ⟨_, rfl⟩
        have HST : Hid (RR + bp j * ((Q + 4294967296 * nv D) * VY) = VX) := Lib.hid (by rw [← hRR]; exact div_step HS.out)
        have HLN : Hid (RR < bp j * VY) := Lib.hid (by
          rw [← hRR, hLU]
          have h6 := mul_mono' (a := U - Q * VY + 1) (b := VY) (c := bp j) (by rw [Int.add_mul] at hQ2; omega) (by omega)
          rw [Int.mul_add, Int.mul_sub, Int.mul_one] at h6
          omega)
        have s1 := shl_or ⟨u0a, u0b⟩ ⟨u1a, u1b⟩
        rw [htp] at s1
        obtain ⟨c0, hc0⟩ : ∃ c, j + m = c := ⟨_, rfl⟩
        obtain ⟨c1, hc1⟩ : ∃ c, j + m1 = c := ⟨_, rfl⟩
        obtain ⟨c2, hc2⟩ : ∃ c, j + m2 = c := ⟨_, rfl⟩
        rw [hc0] at hu0
        rw [hc1] at hu1
        rw [hc2] at hu2
        have HQQ := Lib.hid (And.intro hW0 (And.intro hQ0 (And.intro hQ1 (And.intro hQ2 hQB))))
        have HGU := Lib.hid hG
        have HTP := Lib.hid htp
        have HUW := Lib.hid (And.intro hu0v (And.intro hLU hlo))
        have HRR := Lib.hid hRR
        have HZF : Hid (ZeroFrom Lu (c0 + 1)) := Lib.hid (hc0 ▸ hzf)
        have HIX := Lib.hid (And.intro hc0 (And.intro hc1 (And.intro hc2 (And.intro hlu (And.intro hm2 hlv)))))
        have HUS := Lib.hid (And.intro hu0 (And.intro hu1 (And.intro hu2 (And.intro hv1 hv2))))
        have HK := Lib.hid hk
        have tp0 : 0 ≤ top := by omega
        have tp1 : top < 18446744073709551616 := by omega
        have y0 : (0 : Int) ≤ (j : Int) := by omega
        have y1 : (c0 : Int) < (N : Int) := by omega
        have y2 : (c1 : Int) < (N : Int) := by omega
        have y3 : (c2 : Int) < (N : Int) := by omega
        have y4 : (j : Int) + (m : Int) = (c0 : Int) := by omega
        have y5 : IntKind.i64.wrap ((j : Int) + (m : Int)) = (c0 : Int) := (IntWalk.i64_in _ (by omega)).trans (by omega)
        have y6 : IntKind.i64.wrap ((c0 : Int) - 1) = (c1 : Int) := (IntWalk.i64_in _ (by omega)).trans (by omega)
        have y7 : IntKind.i64.wrap ((c0 : Int) - 2) = (c2 : Int) := (IntWalk.i64_in _ (by omega)).trans (by omega)
        have y8 : IntKind.i64.wrap ((m : Int) - 2) = (m2 : Int) := (IntWalk.i64_in _ (by omega)).trans (by omega)
        have y9 : (m1 : Int) < (m : Int) := by omega
        have y10 : (m2 : Int) < (m : Int) := by omega
        have k0 := HOU.out.cell hu0
        have k1 := HOU.out.cell hu1
        clear hlu hlv hvm hzf hsg hbj hUB hm1e hm2 hu0 hu1 hu2 hv1 hv2 hUe hQ htp hG hW0 hQ0 hQ1 hQ2 hQB hu0v hLU hlo hRR hc0 hc1 hc2 hk hk0 HT HS HLT hzn hmp hpn
        go_upto_region 19 with fail
        go_quiet (fail)
        go_upto_region 20 with fail
        have hdr := below_drewN (Below.refl wq.heap.size wq) nq
        have HU1 := Lib.hid (HOU.out.grow hdr)
        have HQ1 := Lib.hid (HOQ.out.grow hdr)
        have HV1 := Lib.hid (HVV.out.grow hdr)
        have HW1 := Lib.hid (HBW.out.trans (hdr.mono HBW.out.size))
        clear hdr k0 k1 HOU HOQ HVV HBW
        generalize wq.drewN nq = wa at HU1 HQ1 HV1 HW1 ⊢
        have d1 : wa.cell? ⟨gv, m1, none⟩ = some (.int .u32 v1) := HV1.out.cell HUS.out.2.2.2.1
        go_upto_block 4 with fail
        have e1 : top / v1 * v1 + top % v1 = top := by have := Int.mul_ediv_add_emod top v1; rw [Int.mul_comm] at this; exact this
        have e2 : 0 ≤ top % v1 ∧ top % v1 < v1 := ⟨Int.emod_nonneg top (by omega), Int.emod_lt_of_pos top (by omega)⟩
        have e3 : 0 ≤ top / v1 := Int.ediv_nonneg tp0 (by omega)
        have e4 : top / v1 ≤ 4294967297 := by
          have h1 := HTP.out
          have h2 := HUW.out.1
          have : top / v1 * v1 < 4294967298 * v1 := by omega
          have := Int.lt_of_mul_lt_mul_right this (by omega)
          omega
        have e5 : Q ≤ top / v1 := by
          have h1 := HGU.out.low HQQ.out.2.1 HQQ.out.2.2.1
          exact (Int.le_ediv_iff_mul_le (by omega)).2 h1
        obtain ⟨q0, hq0⟩ : ∃ q, top / v1 = q := ⟨_, rfl⟩
        obtain ⟨r0, hr0⟩ : ∃ r, top % v1 = r := ⟨_, rfl⟩
        rw [hq0] at e1 e3 e4 e5 ⊢
        rw [hr0] at e1 e2 ⊢
        have HE1 := Lib.hid e1
        have HE2 : Hid (0 ≤ r0 ∧ r0 < 4294967296) := Lib.hid (by omega)
        have HE3 := Lib.hid (And.intro e3 e4)
        have HE5 := Lib.hid e5
        have HBR : Hid (Below wa.heap.size wa wa) := Lib.hid (Below.refl _ _)
        clear e1 e2 e3 e4 e5 hq0 hr0 d1 s1 tp0 tp1
        go_cut [16, 17] (fun s16 s17 wx => ∃ q r : Int, s16 = .int .u64 q ∧ s17 = .int .u64 r ∧ Hid (q = Q ∨ q = Q + 1) ∧ Hid (0 ≤ q ∧ q < 4294967296) ∧ Hid (Below wa.heap.size wa wx))
        case first =>
          have FIN : Hid (∀ q r, q * v1 + r = top → 0 ≤ q → q < 4294967296 → Q ≤ q → (4294967296 ≤ r ∨ q * v2 ≤ 4294967296 * r + u2) → (q = Q ∨ q = Q + 1)) := Lib.hid fun q r h1 h2 h3 h4 h5 => digit_of HQQ.out.1 HQQ.out.2.2.1 HQQ.out.2.2.2.1 h4 (HGU.out.high h1 h2 (by omega) h5)
          have DEC : Hid (∀ q r, q * v1 + r = top → (q - 1) * v1 + (r + v1) = top) := Lib.hid fun q r h => by rw [Int.sub_mul, Int.one_mul]; omega
          have BRK : Hid (∀ q r, q * v1 + r = top → 4294967296 ≤ r → q < 4294967296) := Lib.hid fun q r h1 h2 => guess_digit (u0 := u0) (u1 := u1) (by rw [h1]; exact HTP.out.symm) HUW.out.1 u1b h2 (by omega)
          have CV1 : Hid (∀ wx, Below wa.heap.size wa wx → wx.cell? ⟨gv, m1, none⟩ = some (.int .u32 v1)) := Lib.hid fun wx hb => (HV1.out.grow hb).cell HUS.out.2.2.2.1
          have CV2 : Hid (∀ wx, Below wa.heap.size wa wx → wx.cell? ⟨gv, m2, none⟩ = some (.int .u32 v2)) := Lib.hid fun wx hb => (HV1.out.grow hb).cell HUS.out.2.2.2.2
          have CU2 : Hid (∀ wx, Below wa.heap.size wa wx → wx.cell? ⟨gw, c2, none⟩ = some (.int .u32 u2)) := Lib.hid fun wx hb => (HU1.out.grow hb).cell HUS.out.2.2.1
          clear u0a u0b u1a hv31
          go_wp2_with fail
          go_loopw [16, 17] (fun s7 s8 wr => ∃ q r : Int, s7 = .int .u64 q ∧ s8 = .int .u64 r ∧ Hid (q * v1 + r = top) ∧ Hid (0 ≤ q ∧ q ≤ 4294967297) ∧ Hid (0 ≤ r ∧ r < 4294967296) ∧ Hid (Q ≤ q) ∧ Hid (Below wa.heap.size wa wr)) (fun s7 _ _ => (intOf s7).toNat)
          case atStart => exact ⟨q0, r0, rfl, rfl, HE1, HE3, HE2, HE5, HBR⟩
          case round =>
            rename World => wg
            obtain ⟨q, r, rfl, rfl, HQR', HQI, HR1, HQL, HBW⟩ := hrel
            have hq1 := HQI.out
            have hr1 := HR1.out
            have hQB := HQQ.out.2.2.2.2
            have hQ0 := HQQ.out.2.1
            by_cases h1 : 4294967296 ≤ q
            · have HQM : Hid (Q ≤ q - 1) := Lib.hid (by omega)
              go_upto_region 22 with fail
              refine wp_region_ext (by kernel_rfl) (by kernel_rfl) ?_
              repeat (go_big_quiet_step (fail))
              refine wpQuiet_nil ?_
              rintro _ ⟨⟨wc, hbc⟩, rfl⟩
              have HBC := Lib.hid (below_then HBW.out hbc)
              clear hbc
              have hcc := CV1.out _ HBC.out
              by_cases h3 : 4294967296 ≤ r + v1
              · have hB := BRK.out (q - 1) (r + v1) (DEC.out q r HQR'.out) h3
                have HFF := Lib.hid (FIN.out (q - 1) (r + v1) (DEC.out q r HQR'.out) (by omega) hB HQM.out (.inl h3))
                have HF2 : Hid (0 ≤ q - 1 ∧ q - 1 < 4294967296) := Lib.hid (by omega)
                go_wp2_with fail
                go_meet
                exact ⟨q - 1, r + v1, rfl, rfl, HFF, HF2, HBC⟩
              · go_wp2_with fail
                go_roundw
                case rel => exact ⟨q - 1, r + v1, rfl, rfl, Lib.hid (DEC.out q r HQR'.out), Lib.hid (by omega), Lib.hid (by omega), HQM, HBC⟩
                case measure => simp [intOf]; omega
            · obtain ⟨M, hM⟩ : ∃ M, q * v2 = M := ⟨_, rfl⟩
              have m12 := mul_dig (d := q) (e := v2) (by omega) ⟨v2a, v2b⟩
              rw [hM] at m12
              obtain ⟨ma, mb⟩ := m12
              have s2 := shl_or (a := r) (b := u2) hr1 ⟨u2a, u2b⟩
              obtain ⟨Z, hZ⟩ : ∃ Z, 4294967296 * r + u2 = Z := ⟨_, rfl⟩
              rw [hZ] at s2
              have hz1 : 0 ≤ Z ∧ Z < 18446744073709551616 := by omega
              have dc2 := CV2.out _ HBW.out
              have dk2 := CU2.out _ HBW.out
              by_cases h2 : Z < M
              · have HQM : Hid (Q ≤ q - 1) := Lib.hid (by
                  have := HGU.out.less HQR'.out hq1.1 (by rw [hZ, hM]; exact h2) HQQ.out.2.2.1
                  omega)
                go_upto_region 22 with fail
                go_quiet (fail)
                have HBC : Hid (Below wa.heap.size wa (wg.drewN nq)) := Lib.hid (below_drewN HBW.out _)
                generalize wg.drewN nq = wc at HBC ⊢
                have hcc := CV1.out wc HBC.out
                clear dc2 dk2
                by_cases h3 : 4294967296 ≤ r + v1
                · have hB := BRK.out (q - 1) (r + v1) (DEC.out q r HQR'.out) h3
                  have HFF := Lib.hid (FIN.out (q - 1) (r + v1) (DEC.out q r HQR'.out) (by have := HQM.out; omega) hB HQM.out (.inl h3))
                  have HF2 : Hid (0 ≤ q - 1 ∧ q - 1 < 4294967296) := Lib.hid (by have := HQM.out; omega)
                  have hq01 : 1 ≤ q := by have := HQM.out; omega
                  go_wp2_with fail
                  go_meet
                  exact ⟨q - 1, r + v1, rfl, rfl, HFF, HF2, HBC⟩
                · have hq01 : 1 ≤ q := by have := HQM.out; omega
                  go_wp2_with fail
                  go_roundw
                  case rel => exact ⟨q - 1, r + v1, rfl, rfl, Lib.hid (DEC.out q r HQR'.out), Lib.hid (by omega), Lib.hid (by omega), HQM, HBC⟩
                  case measure => simp [intOf]; omega
              · have HFF := Lib.hid (FIN.out q r HQR'.out hq1.1 (by omega) HQL.out (.inr (by omega)))
                have HF2 : Hid (0 ≤ q ∧ q < 4294967296) := Lib.hid (by omega)
                go_upto_region 22 with fail
                go_quiet (fail)
                have HBC : Hid (Below wa.heap.size wa (wg.drewN nq)) := Lib.hid (below_drewN HBW.out _)
                generalize wg.drewN nq = wc at HBC ⊢
                clear dc2 dk2
                go_wp2_with fail
                go_meet
                exact ⟨q, r, rfl, rfl, HFF, HF2, HBC⟩
        case rest =>
          obtain ⟨q, r, rfl, rfl, HQC, HQB, HBX⟩ := hcut
          have HUX := Lib.hid (HU1.out.grow HBX.out)
          have HQX := Lib.hid (HQ1.out.grow HBX.out)
          have HVX := Lib.hid (HV1.out.grow HBX.out)
          have HWX := Lib.hid (below_then HW1.out (HBX.out.mono (Nat.le_refl _)))
          clear HE1 HE2 HE3 HE5 HUS HTP HGU HU1 HQ1 HV1 HW1 HBX HBR u0a u0b u1a u1b u2a u2b v1a v1b v2a v2b hv31 y1 y2 y3 y6 y7 y8 y9 y10 q3 q3'
          go_upto_region 28 with fail
          go_wp2_with fail
          go_loopw [18, 19, 20] (fun s18 s19 s20 wr => ∃ (i : Nat) (cr br : Int) (Lc : List Int), i ≤ m ∧ s20 = .int .i64 i ∧ s19 = .int .u64 cr ∧ s18 = .int .u64 br ∧ Hid (0 ≤ cr ∧ cr < 4294967296) ∧ Hid (0 ≤ br ∧ br ≤ 1) ∧ Hid (nv Lc + bp j * (q * nv (LV.take i)) = nv Lu + bp (j + i) * (cr + br)) ∧ Hid (ZeroFrom Lc (c0 + 1)) ∧ Hid (OwG w.heap.size wr (.slice (some ⟨gw, 0, none⟩) N c7) Lc) ∧ Hid (OwG w.heap.size wr (.slice (some ⟨gq, 0, none⟩) z z) (List.replicate (j + 1) 0 ++ D)) ∧ Hid (OwG w.heap.size wr (.slice (some ⟨gv, 0, none⟩) m vc) LV) ∧ Hid (Below w.heap.size w wr)) (fun _ _ s20 _ => m - (intOf s20).toNat)
          case atStart => exact ⟨0, 0, 0, Lu, Nat.zero_le _, rfl, rfl, rfl, Lib.hid (by omega), Lib.hid (by omega), Lib.hid (by simp [nv]), HZF, HUX, HQX, HVX, HWX⟩
          case round =>
            rename World => ws
            obtain ⟨i, cr, br, Lc, hi, rfl, rfl, rfl, HCR, HBRR, HSS, HZC, HOC, HOQ, HOV, HBW⟩ := hrel
            have hcr := HCR.out
            have hbr := HBRR.out
            have hqb := HQB.out
            have hix := HIX.out
            have hlc := HOC.out.len.1
            have hzz := HZN.out
            have hkk := HK.out
            by_cases hlt : i < m
            · obtain ⟨d, hd⟩ : ∃ x, LV[i]? = some x := ⟨_, List.getElem?_eq_getElem (by omega)⟩
              have hcd := HOV.out.cell hd
              obtain ⟨d1, d2⟩ := HOV.out.dig.at_ hd
              obtain ⟨ji, hji⟩ : ∃ k, i + j = k := ⟨_, rfl⟩
              have hji' : j + i = ji := by omega
              obtain ⟨x, hx⟩ : ∃ x, Lc[ji]? = some x := ⟨_, List.getElem?_eq_getElem (by omega)⟩
              have zc := HOC.out.cell hx
              have zf := HOC.out.free ji
              obtain ⟨x1', x2'⟩ := HOC.out.dig.at_ hx
              obtain ⟨P0, hP0⟩ : ∃ P, q * d = P := ⟨_, rfl⟩
              obtain ⟨g1, g2⟩ := mul_dig hqb ⟨d1, d2⟩
              rw [hP0] at g1 g2
              obtain ⟨P, hP⟩ : ∃ P, cr + P0 = P := ⟨_, rfl⟩
              have p1 : 0 ≤ P := by omega
              have p2 : P ≤ 18446744069414584320 := by omega
              have y6 : (0 : Int) ≤ (i : Int) := by omega
              have y7 : (i : Int) < (m : Int) := by omega
              have y8 : (i : Int) + (j : Int) = (ji : Int) := by omega
              have y9 : IntKind.i64.wrap ((i : Int) + (j : Int)) = (ji : Int) := (IntWalk.i64_in _ (by omega)).trans (by omega)
              have y10 : (ji : Int) < (N : Int) := by omega
              have HDD := Lib.hid hd
              have HXX := Lib.hid hx
              have HPP : Hid (cr + q * d = P) := Lib.hid (by rw [hP0]; exact hP)
              have HI := Lib.hid (And.intro hlt (And.intro hji' hji))
              have HPE := Lib.hid hP
              obtain ⟨lo, hlo⟩ : ∃ v, P % 4294967296 = v := ⟨_, rfl⟩
              have l1 : bits BinOp.and IntKind.u64 P 4294967295 = lo := (and_low p1 (by omega)).trans hlo
              have l2 : 0 ≤ lo := by omega
              have l3 : lo ≤ 4294967295 := by omega
              have HLO := Lib.hid hlo
              have HC2 : Hid (0 ≤ P / 4294967296 ∧ P / 4294967296 < 4294967296) := Lib.hid (by omega)
              clear hd hx hji hji' hlt hi hix hlc hP hlo hzz hkk hqb hcr
              go_upto_region 31 with fail
              rw [HPE.out]
              go_upto_region 35 with fail
              by_cases hlow : x < lo + br
              · obtain ⟨dd, hdd⟩ : ∃ dd, x + 4294967296 - (lo + br) = dd := ⟨_, rfl⟩
                have hd0 : 0 ≤ dd := by omega
                have hd1 : dd < 4294967296 := by omega
                have hdw : IntKind.u64.wrap (x + 4294967296 - (lo + br)) = dd := (IntWalk.u64_in _ (by omega)).trans hdd
                have hst := dsub_one (s := dd) (x := x) (b' := 1) HDD.out HPP.out HSS.out (by rw [HLO.out]; omega)
                have hse := HOC.out.set ji (y := dd) ⟨hd0, hd1⟩
                have HSE := Lib.hid hse
                have HST' : Hid (nv (Lc.set ji dd) + bp j * (q * nv (LV.take (i + 1))) = nv Lu + bp (j + (i + 1)) * (P / 4294967296 + 1)) := Lib.hid (by rw [nv_set HXX.out, ← HI.out.2.1]; exact hst)
                have HZS : Hid (ZeroFrom (Lc.set ji dd) (c0 + 1)) := Lib.hid (HZC.out.set (i := ji) (y := dd) (by have := HI.out; have := HIX.out; omega))
                have hg : ws.grownBy (ws.setCell ⟨gw, ji, none⟩ (.int .u32 dd)) (some gw) := grownSet (grownB (Below.refl _ _))
                have HOQ' := Lib.hid (HOQ.out.kept hg (fun e => HGQ.out.1 (by injection e)))
                have HOV' := Lib.hid (HOV.out.kept hg (fun e => HNE.out (by injection e with e; exact e.symm)))
                have HBS := Lib.hid (put_facts HBW.out HWG.out.1 hg)
                clear hst hse hdd hg
                go_wp2_with fail
                go_roundw
                case rel => exact ⟨i + 1, P / 4294967296, 1, Lc.set ji dd, HI.out.1, by go_num, rfl, rfl, HC2, Lib.hid (by omega), HST', HZS, HSE, HOQ', HOV', HBS⟩
                case measure => have := HI.out.1; simp [intOf]; omega
              · have hlow' : lo + br ≤ x := by omega
                obtain ⟨dd, hdd⟩ : ∃ dd, x - (lo + br) = dd := ⟨_, rfl⟩
                have hd0 : 0 ≤ dd := by omega
                have hd1 : dd < 4294967296 := by omega
                have hdw : IntKind.u64.wrap (x - (lo + br)) = dd := (IntWalk.u64_in _ (by omega)).trans hdd
                have hst := dsub_one (s := dd) (x := x) (b' := 0) HDD.out HPP.out HSS.out (by rw [HLO.out]; omega)
                have hse := HOC.out.set ji (y := dd) ⟨hd0, hd1⟩
                have HSE := Lib.hid hse
                have HST' : Hid (nv (Lc.set ji dd) + bp j * (q * nv (LV.take (i + 1))) = nv Lu + bp (j + (i + 1)) * (P / 4294967296 + 0)) := Lib.hid (by rw [nv_set HXX.out, ← HI.out.2.1]; exact hst)
                have HZS : Hid (ZeroFrom (Lc.set ji dd) (c0 + 1)) := Lib.hid (HZC.out.set (i := ji) (y := dd) (by have := HI.out; have := HIX.out; omega))
                have hg : ws.grownBy (ws.setCell ⟨gw, ji, none⟩ (.int .u32 dd)) (some gw) := grownSet (grownB (Below.refl _ _))
                have HOQ' := Lib.hid (HOQ.out.kept hg (fun e => HGQ.out.1 (by injection e)))
                have HOV' := Lib.hid (HOV.out.kept hg (fun e => HNE.out (by injection e with e; exact e.symm)))
                have HBS := Lib.hid (put_facts HBW.out HWG.out.1 hg)
                clear hst hse hdd hg
                go_wp2_with fail
                go_roundw
                case rel => exact ⟨i + 1, P / 4294967296, 0, Lc.set ji dd, HI.out.1, by go_num, rfl, rfl, HC2, Lib.hid (by omega), HST', HZS, HSE, HOQ', HOV', HBS⟩
                case measure => have := HI.out.1; simp [intOf]; omega
            · obtain rfl : m = i := by omega
              obtain ⟨x, hx⟩ : ∃ x, Lc[c0]? = some x := ⟨_, List.getElem?_eq_getElem (by omega)⟩
              have zc := HOC.out.cell hx
              have zf := HOC.out.free c0
              obtain ⟨x1', x2'⟩ := HOC.out.dig.at_ hx
              have y6 : (c0 : Int) < (N : Int) := by omega
              by_cases hlow : x < cr + br
              · obtain ⟨dd, hdd⟩ : ∃ dd, x + 4294967296 - (cr + br) = dd := ⟨_, rfl⟩
                have hd0 : 0 ≤ dd := by omega
                have hd1 : dd < 4294967296 := by omega
                have hdw : IntKind.u64.wrap (x + 4294967296 - (cr + br)) = dd := (IntWalk.u64_in _ (by omega)).trans hdd
                have hse := HOC.out.set c0 (y := dd) ⟨hd0, hd1⟩
                obtain ⟨L1, hL1⟩ : ∃ l, Lc.set c0 dd = l := ⟨_, rfl⟩
                rw [hL1] at hse
                have hz1 : ZeroFrom L1 (c0 + 1) := by rw [← hL1]; exact HZC.out.set (i := c0) (y := dd) (by omega)
                have hnv : nv L1 = nv Lu - bp j * (q * VY) + bp (c0 + 1) * 1 := by
                  have h1 := HSS.out
                  rw [take_len (l := LV) (by omega), HUV.out.2.1, hix.1] at h1
                  rw [← hL1, nv_set hx]
                  exact top_one h1 (by omega)
                obtain ⟨-, hz2⟩ := zero_lt hse.dig hz1 (by rw [hse.len.1]; omega)
                have hde := (digit_end (j := j) HQQ.out.1 HQQ.out.2.2.1 HQQ.out.2.2.2.1 HQC.out HUW.out.2.1 HUW.out.2.2 hnv (by omega) (nv_low hse.dig) hz2 HRR.out.symm).2 rfl
                have HSE := Lib.hid hse
                have HZ1 := Lib.hid hz1
                have hg : ws.grownBy (ws.setCell ⟨gw, c0, none⟩ (.int .u32 dd)) (some gw) := grownSet (grownB (Below.refl _ _))
                have HOQ' := Lib.hid (HOQ.out.kept hg (fun e => HGQ.out.1 (by injection e)))
                have HOV' := Lib.hid (HOV.out.kept hg (fun e => HNE.out (by injection e with e; exact e.symm)))
                have HBS := Lib.hid (put_facts HBW.out HWG.out.1 hg)
                have HDE := Lib.hid hde
                clear hse hz1 hnv hz2 hde hg hL1 hdd hx hi hlt hix hlc hzz hkk hqb HSS HOC HOQ HOV HBW HZC HCR HBRR
                go_upto_region 46 with fail
                generalize ws.setCell ⟨gw, c0, none⟩ (.int .u32 dd) = wt at HSE HOQ' HOV' HBS ⊢
                clear hd0 hd1 hdw x1' x2' zc zf hcr hbr
                have HQE : Hid (q - 1 = Q) := Lib.hid (by have := HDE.out.1; omega)
                have HRN : Hid (nv L1 + bp j * VY = RR + bp (c0 + 1) ∧ 0 ≤ RR) := Lib.hid HDE.out.2
                have hq01 : 1 ≤ q ∧ q < 4294967296 := by have := HDE.out.1; have := HQQ.out.2.1; have := HQB.out; omega
                obtain ⟨hq01, hq02⟩ := hq01
                have hq03 : IntKind.u64.wrap (q - 1) = q - 1 := IntWalk.u64_in _ (by omega)
                clear HDE
                go_upto_region 50 with fail
                go_wp2_with fail
                go_loopw [25, 26] (fun s25 s26 wr => ∃ (i : Nat) (cr : Int) (Lc : List Int), i ≤ m ∧ s26 = .int .i64 i ∧ s25 = .int .u64 cr ∧ Hid (0 ≤ cr ∧ cr ≤ 1) ∧ Hid (nv Lc + bp (j + i) * cr = nv L1 + bp j * nv (LV.take i)) ∧ Hid (ZeroFrom Lc (c0 + 1)) ∧ Hid (OwG w.heap.size wr (.slice (some ⟨gw, 0, none⟩) N c7) Lc) ∧ Hid (OwG w.heap.size wr (.slice (some ⟨gq, 0, none⟩) z z) (List.replicate (j + 1) 0 ++ D)) ∧ Hid (OwG w.heap.size wr (.slice (some ⟨gv, 0, none⟩) m vc) LV) ∧ Hid (Below w.heap.size w wr)) (fun _ s26 _ => m - (intOf s26).toNat)
                case atStart => exact ⟨0, 0, L1, Nat.zero_le _, rfl, rfl, Lib.hid (by omega), Lib.hid (by simp [nv]), HZ1, HSE, HOQ', HOV', HBS⟩
                case round =>
                  rename World => wb
                  clear HSE HZ1 HOQ' HOV' HBS
                  obtain ⟨i, cr, Lc, hi, rfl, rfl, HCR, HSS, HZC, HOC, HOQ, HOV, HBW⟩ := hrel
                  have hcr := HCR.out
                  have hix := HIX.out
                  have hlc := HOC.out.len.1
                  have hzz := HZN.out
                  have hkk := HK.out
                  by_cases hlt : i < m
                  · obtain ⟨d, hd⟩ : ∃ x, LV[i]? = some x := ⟨_, List.getElem?_eq_getElem (by omega)⟩
                    have hcd := HOV.out.cell hd
                    obtain ⟨d1, d2⟩ := HOV.out.dig.at_ hd
                    obtain ⟨ji, hji⟩ : ∃ k, i + j = k := ⟨_, rfl⟩
                    have hji' : j + i = ji := by omega
                    obtain ⟨x, hx⟩ : ∃ x, Lc[ji]? = some x := ⟨_, List.getElem?_eq_getElem (by omega)⟩
                    have zc := HOC.out.cell hx
                    obtain ⟨x1', x2'⟩ := HOC.out.dig.at_ hx
                    obtain ⟨t, ht⟩ : ∃ t, cr + (x + d) = t := ⟨_, rfl⟩
                    have hst := dadd_one (x := x) hd HSS.out ht.symm
                    have HST2 : Hid (nv (Lc.set ji (t % 4294967296)) + bp (j + (i + 1)) * (t / 4294967296) = nv L1 + bp j * nv (LV.take (i + 1))) := Lib.hid (by rw [nv_set hx, ← hji']; exact hst)
                    have t0 : 0 ≤ t := by omega
                    have t1 : t < 18446744073709551616 := by omega
                    have HC2 : Hid (0 ≤ t / 4294967296 ∧ t / 4294967296 ≤ 1) := Lib.hid (by omega)
                    have HTE := Lib.hid ht
                    have HZS : Hid (ZeroFrom (Lc.set ji (t % 4294967296)) (c0 + 1)) := Lib.hid (HZC.out.set (i := ji) (y := t % 4294967296) (by omega))
                    have HXX := Lib.hid hx
                    have y6 : (0 : Int) ≤ (i : Int) := by omega
                    have y7 : (i : Int) < (m : Int) := by omega
                    have y8 : (i : Int) + (j : Int) = (ji : Int) := by omega
                    have y9 : IntKind.i64.wrap ((i : Int) + (j : Int)) = (ji : Int) := (IntWalk.i64_in _ (by omega)).trans (by omega)
                    have y10 : (ji : Int) < (N : Int) := by omega
                    have HI := Lib.hid hlt
                    clear hst hd hx ht hji hji' hlt hi hix hlc hzz hkk
                    go_upto_region 52 with fail
                    go_quiet (fail)
                    rw [HTE.out]
                    have hdr := below_drewN (Below.refl wb.heap.size wb) nq
                    have HU1 := Lib.hid (HOC.out.grow hdr)
                    have HQ1 := Lib.hid (HOQ.out.grow hdr)
                    have HV1 := Lib.hid (HOV.out.grow hdr)
                    have HW1 := Lib.hid (HBW.out.trans (hdr.mono HBW.out.size))
                    clear hdr zc hcd HOC HOQ HOV HBW hcr x1' x2' d1 d2
                    generalize wb.drewN nq = wd at HU1 HQ1 HV1 HW1 ⊢
                    have zc := HU1.out.cell HXX.out
                    have zf := HU1.out.free ji
                    have HSE := Lib.hid (HU1.out.set ji (y := t % 4294967296) ⟨by omega, by omega⟩)
                    have hg : wd.grownBy (wd.setCell ⟨gw, ji, none⟩ (.int .u32 (t % 4294967296))) (some gw) := grownSet (grownB (Below.refl _ _))
                    have HOQ := Lib.hid (HQ1.out.kept hg (fun e => HGQ.out.1 (by injection e)))
                    have HOV := Lib.hid (HV1.out.kept hg (fun e => HNE.out (by injection e with e; exact e.symm)))
                    have HBS := Lib.hid (put_facts HW1.out HWG.out.1 hg)
                    clear hg
                    go_wp2_with fail
                    go_roundw
                    case rel => exact ⟨i + 1, t / 4294967296, Lc.set ji (t % 4294967296), HI.out, by go_num, rfl, HC2, HST2, HZS, HSE, HOQ, HOV, HBS⟩
                    case measure => have := HI.out; simp [intOf]; omega
                  · obtain rfl : m = i := by omega
                    obtain ⟨x, hx⟩ : ∃ x, Lc[c0]? = some x := ⟨_, List.getElem?_eq_getElem (by omega)⟩
                    have zc := HOC.out.cell hx
                    have zf := HOC.out.free c0
                    obtain ⟨x1', x2'⟩ := HOC.out.dig.at_ hx
                    obtain ⟨y, hy⟩ : ∃ y, IntKind.u32.wrap (x + cr) = y := ⟨_, rfl⟩
                    have hy' : y = (x + cr) % 4294967296 := hy.symm
                    obtain ⟨L2, hL2⟩ : ∃ l, Lc.set c0 y = l := ⟨_, rfl⟩
                    have hse := HOC.out.set c0 (y := y) ⟨by omega, by omega⟩
                    rw [hL2] at hse
                    have hz1 : ZeroFrom L2 (c0 + 1) := by rw [← hL2]; exact HZC.out.set (i := c0) (y := y) (by omega)
                    obtain ⟨-, hz2⟩ := zero_lt hse.dig hz1 (by rw [hse.len.1]; omega)
                    have HNV : Hid (nv L2 = RR) := Lib.hid (by
                      have h1 := HSS.out
                      rw [take_len (l := LV) (by omega), HUV.out.2.1, hix.1] at h1
                      rw [← hL2, nv_set hx] at hz2 ⊢
                      exact back_one h1 HRN.out.1 HRN.out.2 hy' (by omega) hz2)
                    have HSE := Lib.hid hse
                    have hg : wb.grownBy (wb.setCell ⟨gw, c0, none⟩ (.int .u32 y)) (some gw) := grownSet (grownB (Below.refl _ _))
                    have HOQ' := Lib.hid (HOQ.out.kept hg (fun e => HGQ.out.1 (by injection e)))
                    have HOV' := Lib.hid (HOV.out.kept hg (fun e => HNE.out (by injection e with e; exact e.symm)))
                    have HBS := Lib.hid (put_facts HBW.out HWG.out.1 hg)
                    have y6 : (c0 : Int) < (N : Int) := by omega
                    clear hse hz1 hz2 hg hL2 hx hi hlt hix hlc hzz hkk hy' HSS HOC HOQ HOV HBW HZC HCR
                    go_upto_region 56 with fail
                    try rw [hy]
                    generalize wb.setCell ⟨gw, c0, none⟩ (.int .u32 y) = wt at HSE HOQ' HOV' HBS ⊢
                    clear zc zf x1' x2' hcr hy
                    have hq0 : 0 ≤ q - 1 ∧ q - 1 < 4294967296 := by have := HQQ.out.2.1; have := HQQ.out.2.2.2.2; rw [HQE.out]; omega
                    have hkk := HK.out
                    have zcq := HOQ'.out.cell (k := j) (y := 0) (by rw [List.getElem?_append_left (by simp), List.getElem?_replicate, if_pos (by omega)])
                    have zfq := HOQ'.out.free j
                    have hsq := HOQ'.out.set j (y := q - 1) hq0
                    rw [set_front] at hsq
                    have HSQ := Lib.hid hsq
                    have hg7 : wt.grownBy (wt.setCell ⟨gq, j, none⟩ (.int .u32 (q - 1))) (some gq) := grownSet (grownB (Below.refl _ _))
                    have HO7 := Lib.hid (HSE.out.kept hg7 (fun e => HGQ.out.1 (by injection e with e; exact e.symm)))
                    have HV7 := Lib.hid (HOV'.out.kept hg7 (fun e => HGQ.out.2.1 (by injection e with e; exact e.symm)))
                    have HB7 := Lib.hid (put_facts HBS.out HGQ.out.2.2 hg7)
                    have HS7 : Hid (nv L2 + bp j * (nv ((q - 1) :: D) * VY) = VX) := Lib.hid (by rw [HNV.out, HQE.out]; exact HST.out)
                    have HL7 : Hid (nv L2 < bp j * VY) := Lib.hid (by rw [HNV.out]; exact HLN.out)
                    have hq1 := hq0.1
                    have hq2 := hq0.2
                    have w1 : (j : Int) < (z : Int) := by omega
                    have w3 : IntKind.i64.wrap ((j : Int) - 1) = (j : Int) - 1 := IntWalk.i64_in _ (by have := HIX.out; omega)
                    clear hsq hg7 hq0 hkk
                    go_wp2_with fail
                    go_roundw
                    case rel => exact ⟨j, (j : Int) - 1, L2, (q - 1) :: D, by have := HK.out; omega, by go_num, Lib.hid rfl, HS7, HL7, HO7, HSQ, HV7, HB7⟩
                    case measure => simp [intOf]
              · have hlow' : cr + br ≤ x := by omega
                obtain ⟨dd, hdd⟩ : ∃ dd, x - (cr + br) = dd := ⟨_, rfl⟩
                have hd0 : 0 ≤ dd := by omega
                have hd1 : dd < 4294967296 := by omega
                have hdw : IntKind.u64.wrap (x - (cr + br)) = dd := (IntWalk.u64_in _ (by omega)).trans hdd
                have hse := HOC.out.set c0 (y := dd) ⟨hd0, hd1⟩
                obtain ⟨L1, hL1⟩ : ∃ l, Lc.set c0 dd = l := ⟨_, rfl⟩
                rw [hL1] at hse
                have hz1 : ZeroFrom L1 (c0 + 1) := by rw [← hL1]; exact HZC.out.set (i := c0) (y := dd) (by omega)
                have hnv : nv L1 = nv Lu - bp j * (q * VY) + bp (c0 + 1) * 0 := by
                  have h1 := HSS.out
                  rw [take_len (l := LV) (by omega), HUV.out.2.1, hix.1] at h1
                  rw [← hL1, nv_set hx]
                  exact top_one h1 (by omega)
                obtain ⟨-, hz2⟩ := zero_lt hse.dig hz1 (by rw [hse.len.1]; omega)
                have hde := (digit_end (j := j) HQQ.out.1 HQQ.out.2.2.1 HQQ.out.2.2.2.1 HQC.out HUW.out.2.1 HUW.out.2.2 hnv (by omega) (nv_low hse.dig) hz2 HRR.out.symm).1 rfl
                have HSE := Lib.hid hse
                have HZ1 := Lib.hid hz1
                have hg : ws.grownBy (ws.setCell ⟨gw, c0, none⟩ (.int .u32 dd)) (some gw) := grownSet (grownB (Below.refl _ _))
                have HOQ' := Lib.hid (HOQ.out.kept hg (fun e => HGQ.out.1 (by injection e)))
                have HOV' := Lib.hid (HOV.out.kept hg (fun e => HNE.out (by injection e with e; exact e.symm)))
                have HBS := Lib.hid (put_facts HBW.out HWG.out.1 hg)
                have HDE := Lib.hid hde
                clear hse hz1 hnv hz2 hde hg hL1 hdd hx hi hlt hix hlc hzz hkk hqb HSS HOC HOQ HOV HBW HZC HCR HBRR
                go_upto_region 46 with fail
                generalize ws.setCell ⟨gw, c0, none⟩ (.int .u32 dd) = wt at HSE HOQ' HOV' HBS ⊢
                clear hd0 hd1 hdw x1' x2' zc zf hcr hbr
                have HQE : Hid (q = Q) := Lib.hid HDE.out.1
                have HNV : Hid (nv L1 = RR) := Lib.hid HDE.out.2
                clear HDE
                have hq0 : 0 ≤ q ∧ q < 4294967296 := by have := HQQ.out.2.1; have := HQQ.out.2.2.2.2; rw [HQE.out]; omega
                have hkk := HK.out
                have zcq := HOQ'.out.cell (k := j) (y := 0) (by rw [List.getElem?_append_left (by simp), List.getElem?_replicate, if_pos (by omega)])
                have zfq := HOQ'.out.free j
                have hsq := HOQ'.out.set j (y := q) hq0
                rw [set_front] at hsq
                have HSQ := Lib.hid hsq
                have hg7 : wt.grownBy (wt.setCell ⟨gq, j, none⟩ (.int .u32 (q))) (some gq) := grownSet (grownB (Below.refl _ _))
                have HO7 := Lib.hid (HSE.out.kept hg7 (fun e => HGQ.out.1 (by injection e with e; exact e.symm)))
                have HV7 := Lib.hid (HOV'.out.kept hg7 (fun e => HGQ.out.2.1 (by injection e with e; exact e.symm)))
                have HB7 := Lib.hid (put_facts HBS.out HGQ.out.2.2 hg7)
                have HS7 : Hid (nv L1 + bp j * (nv ((q) :: D) * VY) = VX) := Lib.hid (by rw [HNV.out, HQE.out]; exact HST.out)
                have HL7 : Hid (nv L1 < bp j * VY) := Lib.hid (by rw [HNV.out]; exact HLN.out)
                have hq1 := hq0.1
                have hq2 := hq0.2
                have w1 : (j : Int) < (z : Int) := by omega
                have w3 : IntKind.i64.wrap ((j : Int) - 1) = (j : Int) - 1 := IntWalk.i64_in _ (by have := HIX.out; omega)
                clear hsq hg7 hq0 hkk
                go_wp2_with fail
                go_roundw
                case rel => exact ⟨j, (j : Int) - 1, L1, (q) :: D, by have := HK.out; omega, by go_num, Lib.hid rfl, HS7, HL7, HO7, HSQ, HV7, HB7⟩
                case measure => simp [intOf]
end Go.Proofs.Ytmdfgidejdiiiaa
