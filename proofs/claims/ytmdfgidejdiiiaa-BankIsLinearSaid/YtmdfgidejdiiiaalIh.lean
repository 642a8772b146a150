/- Reference of naturals: Shift down. -/
import Derived.Test.YtmdfgidejdiiiaalIdtoIg
set_option linter.unusedVariables false
set_option linter.unusedSimpArgs false
namespace Go.Proofs.Ytmdfgidejdiiiaa
open Go.RowKit
theorem shr_step {s : Nat} {x y : Int} (hs : s < 32) (hx : 0 ≤ x ∧ x < 4294967296) (hy : 0 ≤ y ∧ y < 4294967296) :
    2 ^ s * ((x + y * 4294967296) / 2 ^ s % 4294967296) = x - x % 2 ^ s + 4294967296 * (y % 2 ^ s) ∧ (0 ≤ y % 2 ^ s ∧ y % 2 ^ s < 2 ^ s) := by
  obtain ⟨R, hR⟩ : ∃ R : Int, (2 : Int) ^ (32 - s) = R := ⟨_, rfl⟩
  have h1 := pow_split hs
  have h2 := pow2_pos s
  have h4 : 0 < R := by rw [← hR]; exact pow2_pos _
  rw [hR] at h1
  generalize (2 : Int) ^ s = P at *
  have hP : P ≠ 0 := by omega
  have a1 := Int.mul_ediv_add_emod x P
  have a2 := Int.emod_nonneg x hP
  have a3 := Int.emod_lt_of_pos x h2
  have b1 := Int.mul_ediv_add_emod y P
  have b2 := Int.emod_nonneg y hP
  have b3 := Int.emod_lt_of_pos y h2
  have c1 : 0 ≤ x / P := Int.ediv_nonneg hx.1 (by omega)
  have c2 : x / P < R := by
    have : x / P * P < R * P := by rw [Int.mul_comm _ P, Int.mul_comm R, h1]; omega
    exact Int.lt_of_mul_lt_mul_right this (by omega)
  have c3 : 0 ≤ y / P := Int.ediv_nonneg hy.1 (by omega)
  have e1 : x + y * 4294967296 = x % P + P * (x / P + y * R) := by
    rw [← h1, Int.mul_add, Int.mul_left_comm P y R]; omega
  have e2 : (x + y * 4294967296) / P = x / P + y * R := by
    rw [e1, Int.add_mul_ediv_left _ _ hP, Int.ediv_eq_zero_of_lt a2 a3, Int.zero_add]
  have e3 : y * R = 4294967296 * (y / P) + y % P * R := by
    rw [← h1, Int.mul_assoc, Int.mul_comm R, ← Int.mul_assoc, ← Int.add_mul, b1]
  have d1 : y % P * R ≤ (P - 1) * R := mul_mono (by omega) (by omega)
  rw [Int.sub_mul, Int.one_mul, h1] at d1
  have d2 : 0 ≤ y % P * R := Int.mul_nonneg b2 (by omega)
  have e4 : (x + y * 4294967296) / P % 4294967296 = x / P + y % P * R := by
    rw [e2, e3]; omega
  refine ⟨?_, b2, b3⟩
  rw [e4, Int.mul_add, Int.mul_left_comm P, h1]
  omega
theorem shr_val {X T : List Int} {k : Nat} {x m m' r d P : Int} (hk : T.length = k) (hX : X[k]? = some x) (hT : P * nv T + r = nv (X.take k) + bp k * m) (hd : P * d = x - m + 4294967296 * m') : P * nv (T ++ [d]) + r = nv (X.take (k + 1)) + bp (k + 1) * m' := by
  subst hk
  rw [nv_app, nv_one, nv_take hX, bp_succ, Int.mul_add]
  have e : 4294967296 * bp T.length * m' = bp T.length * (4294967296 * m') := by rw [Int.mul_comm 4294967296, Int.mul_assoc]
  have h1 : bp T.length * (P * d) = bp T.length * (x - m + 4294967296 * m') := by rw [hd]
  rw [Int.mul_add, Int.mul_sub] at h1
  rw [e, Int.mul_left_comm P]
  omega
set_option maxRecDepth 100000 in
set_option maxHeartbeats 1000000 in
theorem r1_ShiftR (A : Option Addr) (p c s : Nat) (X : List Int) (w : World) (hX : DigA w A X) (hp : X.length = p) (hc : p ≤ c) (h9 : p ≤ 10000000) (hs : s < 32) (hs0 : 1 ≤ s) :
    Calls Try.prog 136 #[.slice A p c, .int .i64 (-(s : Int))] w (RetN w (nv X / 2 ^ s) p) := by
  have CT : Hid (Calls Try.prog 100 #[.slice A p c] w (RetN w (nv X) p)) := Lib.hid (r1_Trim A p c X w hX hp hc (by omega))
  obtain ⟨V, hV⟩ : ∃ V, nv X / 2 ^ s = V := ⟨_, rfl⟩
  rw [hV]
  have HV := Lib.hid hV
  have hs1 : (s : Int) < 32 := by omega
  have hs4 : 1 ≤ (s : Int) := by omega
  have t1 : (s : Int).tmod 32 = (s : Int) := by rw [Int.tmod_eq_emod_of_nonneg (by omega), Int.emod_eq_of_lt (by omega) hs1]
  have t2 : (s : Int).tdiv 32 = 0 := by rw [Int.tdiv_eq_ediv_of_nonneg (by omega), Int.ediv_eq_zero_of_lt (by omega) hs1]
  clear hX hp hc hV
  go_enter Try.func136, Try.ntmps136
  go_upto_region 2 with (go_at_call 100; (with_reducible refine CT.out.mono ?_); rintro e1 w1 ⟨v1, pl, rfl, o1, n1, m1, k1, hb1⟩; obtain ⟨A1, c1, rfl, -, -⟩ := o1.form; have HP := Lib.hid (And.intro o1 (And.intro n1 (And.intro m1 k1))); have HB1 := Lib.hid hb1; clear o1 n1 m1 k1 hb1)
  obtain ⟨q, hq⟩ : ∃ q, pl.length = q := ⟨_, rfl⟩
  have hqp : q ≤ p := by have := HP.out.2.2.2; omega
  have HX : Hid (DigA w1 A1 pl) := Lib.hid HP.out.1.digA
  have HL : Hid (pl.length = q) := Lib.hid hq
  have HXV : Hid (nv pl / 2 ^ s = V) := Lib.hid (by rw [HP.out.2.1]; exact HV.out)
  clear CT HP
  rw [hq]
  clear hq
  by_cases hq0 : q = 0
  · subst hq0
    have HE : Hid (V = 0) := Lib.hid (by rw [← HXV.out, List.length_eq_zero_iff.1 HL.out]; simp [nv])
    go_wp2_with fail
    go_ret
    exact ⟨_, [], rfl, OwG.nil, by rw [HE.out]; rfl, Nrm.nil, Nat.zero_le _, HB1.out⟩
  have hq1 : (q : Int) ≠ 0 := by omega
  have hq2 : ((q : Int) == 0) = false := by simpa using hq0
  have hq3 : 1 ≤ (q : Int) := by omega
  clear hq0
  have q5 : IntKind.i64.wrap (-32 * (q : Int)) = -32 * (q : Int) := IntWalk.i64_in _ (by omega)
  have hle : -32 * (q : Int) ≤ -(s : Int) := by omega
  go_upto_region 10 with fail
  obtain ⟨z0, hz0⟩ : ∃ z, pl[0]? = some z := ⟨_, List.getElem?_eq_getElem (by rw [HL.out]; omega)⟩
  obtain ⟨r0, hr0⟩ : ∃ r, z0 % 2 ^ s = r := ⟨_, rfl⟩
  have HR0 : Hid (0 ≤ r0 ∧ r0 < 2 ^ s) := Lib.hid (by have := pow2_pos s; rw [← hr0]; exact ⟨Int.emod_nonneg _ (by omega), Int.emod_lt_of_pos _ this⟩)
  have HM0 : Hid ((∀ x, pl[0]? = some x → r0 = x % 2 ^ s) ∧ (0 = q → r0 = 0)) := Lib.hid ⟨fun x hx => by rw [hz0] at hx; injection hx with hx; rw [← hx, hr0], fun h => by omega⟩
  clear hz0 hr0
  go_wp2_with fail
  go_loopw [5, 6] (fun o i wr => ∃ (k : Nat) (T : List Int) (m : Int), k ≤ q ∧ i = .int .i64 k ∧ Hid (T.length = k) ∧ Hid (2 ^ s * nv T + r0 = nv (pl.take k) + bp k * m) ∧ Hid ((∀ x, pl[k]? = some x → m = x % 2 ^ s) ∧ (k = q → m = 0)) ∧ Hid (OwG w1.heap.size wr o T) ∧ Hid (Below w1.heap.size w1 wr)) (fun _ i _ => q - (intOf i).toNat)
  case atStart => exact ⟨0, [], r0, Nat.zero_le _, rfl, Lib.hid rfl, Lib.hid (by simp [nv, bp_zero]), HM0, Lib.hid OwG.nil, Lib.hid (Below.refl _ _)⟩
  case round =>
    obtain ⟨k, T, m, hk, rfl, HT, HS, HM, HO, HBW⟩ := hrel
    have x0 : (0 : Int) ≤ (k : Int) := by omega
    by_cases hlt : k < q
    · obtain ⟨ad, x, rfl, _, hx, hcx, i1, i2⟩ := (HX.out.grow HBW.out).at_ (k := k) (by rw [HL.out]; exact hlt)
      have x1 : (k : Int) < (q : Int) := by omega
      by_cases hl2 : k + 1 < q
      · obtain ⟨kn, hkn⟩ : ∃ n, k + 1 = n := ⟨_, rfl⟩
        have HKN := Lib.hid hkn
        obtain ⟨ad', y, e1, _, hy, hcy, j1, j2⟩ := (HX.out.grow HBW.out).at_ (k := kn) (by rw [HL.out]; omega)
        have x3 : (k : Int) + 1 = (kn : Int) := by omega
        have x4 : IntKind.i64.wrap ((k : Int) + 1) = (kn : Int) := (IntWalk.i64_in _ (by omega)).trans (by omega)
        rw [← hkn] at hy
        have hkl : kn < q := by omega
        clear hkn
        injection e1 with e1
        subst e1
        have x2 : (kn : Int) < (q : Int) := by omega
        have x5 : (0 : Int) ≤ (kn : Int) := by omega
        obtain ⟨g1, g2, g3⟩ := shr_step (s := s) hs ⟨i1, i2⟩ ⟨j1, j2⟩
        obtain ⟨d, hd⟩ : ∃ d, (x + y * 4294967296) / 2 ^ s % 4294967296 = d := ⟨_, rfl⟩
        rw [hd] at g1
        have hst := shr_val (d := d) (m' := y % 2 ^ s) HT.out hx HS.out (by rw [HM.out.1 x hx]; exact g1)
        have HST := Lib.hid hst
        have HN : Hid ((∀ x', pl[k + 1]? = some x' → y % 2 ^ s = x' % 2 ^ s) ∧ (k + 1 = q → y % 2 ^ s = 0)) := Lib.hid (⟨fun x' h => by rw [hy] at h; injection h with h; rw [h], fun h => by omega⟩)
        have hdg : Dg d := by rw [← hd]; exact ⟨by omega, by omega⟩
        have hln : T.length < 100000000 := by rw [HT.out]; omega
        have hsz := HBW.out.size
        have ho := HO.out
        have HK1 : Hid (k + 1 ≤ q ∧ k < q) := Lib.hid ⟨by omega, by omega⟩
        have hp31 := pow_up hs
        have hpp := pow2_pos s
        have l1 : bits BinOp.or IntKind.u64 x (y * 4294967296) = x + y * 4294967296 := or_add64' (i := 32) ⟨by omega, by omega⟩ (Int.mul_emod_left _ _) ⟨i1, i2⟩ (by omega)
        obtain ⟨t, ht⟩ : ∃ t, x + y * 4294967296 = t := ⟨_, rfl⟩
        rw [ht] at l1 hd
        have t0 : 0 ≤ t := by omega
        have t9 : t < 18446744073709551616 := by omega
        clear hy ht
        clear hx hst hk hlt g1 g2 g3
        go_wp2_with (at_builtin; refine app_dig _ rfl _ _ rfl w1.heap.size ho rfl rfl hln hsz hdg ?_; intro v1 w5 ho1 hb1)
        go_roundw
        case rel => exact ⟨k + 1, T ++ [d], y % 2 ^ s, HK1.out.1, by first | go_num | rw [HKN.out], Lib.hid (by rw [List.length_append, HT.out]; rfl), HST, HN, Lib.hid ho1, Lib.hid (HBW.out.trans hb1)⟩
        case measure => have := HK1.out.2; simp [intOf]; omega
      · have x2 : (q : Int) ≤ (k : Int) + 1 := by omega
        obtain ⟨g1, g2, g3⟩ := shr_step (s := s) hs ⟨i1, i2⟩ ⟨Int.le_refl 0, by decide⟩
        obtain ⟨d, hd⟩ : ∃ d, (x + (0 : Int) * 4294967296) / 2 ^ s % 4294967296 = d := ⟨_, rfl⟩
        rw [hd] at g1
        have hst := shr_val (d := d) (m' := (0 : Int) % 2 ^ s) HT.out hx HS.out (by rw [HM.out.1 x hx]; exact g1)
        have HST := Lib.hid hst
        have HN : Hid ((∀ x', pl[k + 1]? = some x' → (0 : Int) % 2 ^ s = x' % 2 ^ s) ∧ (k + 1 = q → (0 : Int) % 2 ^ s = 0)) := Lib.hid (⟨fun x' h => (by rw [List.getElem?_eq_none (by rw [HL.out]; omega)] at h; exact absurd h (by simp)), fun _ => Int.zero_emod _⟩)
        have hdg : Dg d := by rw [← hd]; exact ⟨by omega, by omega⟩
        have hln : T.length < 100000000 := by rw [HT.out]; omega
        have hsz := HBW.out.size
        have ho := HO.out
        have HK1 : Hid (k + 1 ≤ q ∧ k < q) := Lib.hid ⟨by omega, by omega⟩
        have hp31 := pow_up hs
        have hpp := pow2_pos s
        rw [Int.zero_mul, Int.add_zero] at hd
        clear hx hst hk hlt g1 g2 g3
        go_wp2_with (at_builtin; refine app_dig _ rfl _ _ rfl w1.heap.size ho rfl rfl hln hsz hdg ?_; intro v1 w5 ho1 hb1)
        go_roundw
        case rel => exact ⟨k + 1, T ++ [d], (0 : Int) % 2 ^ s, HK1.out.1, by first | go_num | rw [HKN.out], Lib.hid (by rw [List.length_append, HT.out]; rfl), HST, HN, Lib.hid ho1, Lib.hid (HBW.out.trans hb1)⟩
        case measure => have := HK1.out.2; simp [intOf]; omega
    · obtain rfl : k = q := by omega
      have x1 : (k : Int) ≤ (k : Int) := by omega
      have HF : Hid (nv T = V) := Lib.hid (by
        have h1 := HS.out
        have h2 := pow2_pos s
        rw [take_len (by rw [HL.out]; omega), HM.out.2 rfl, Int.mul_zero, Int.add_zero] at h1
        rw [← HXV.out, ← h1, Int.mul_add_ediv_left _ _ (by omega), Int.ediv_eq_zero_of_lt HR0.out.1 HR0.out.2, Int.add_zero])
      obtain ⟨A2, c2, rfl, hc2, hd2⟩ := HO.out.form
      have CT : Hid (Calls Try.prog 100 #[.slice A2 T.length c2] wr (RetN wr V p)) := Lib.hid (by
        have := r1_Trim A2 T.length c2 T wr hd2 rfl hc2 (by rw [HT.out]; omega)
        rw [HF.out] at this
        exact this.mono fun _ _ h => h.le (by rw [HT.out]; omega))
      clear hc2 hd2 hk
      go_wp2_with (go_at_call 100; (with_reducible refine CT.out.mono ?_); intro e5 w5 h5; obtain ⟨v5, l5, rfl, h5⟩ := h5; have H5 := Lib.hid h5; clear h5)
      go_ret
      have h5 := H5.out
      have hb := below_then HB1.out HBW.out
      exact ⟨_, l5, rfl, h5.1.base hb.size, h5.2.1, h5.2.2.1, h5.2.2.2.1, below_then hb h5.2.2.2.2⟩
end Go.Proofs.Ytmdfgidejdiiiaa
