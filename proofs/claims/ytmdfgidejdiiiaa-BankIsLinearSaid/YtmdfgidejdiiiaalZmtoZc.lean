/- Several texts in one: Zm Zn Zc. -/
import Derived.Test.YtmdfgidejdiiiaalZl
import Derived.Test.YtmdfgidejdiiiaalJ2toVp
import Derived.Test.YtmdfgidejdiiiaaSh
import Derived.Test.YtmdfgidejdiiiaalFxtoV1
import Derived.Lib.BitFns
import Derived.Test.YtmdfgidejdiiiaalZhtoZi
set_option linter.unusedVariables false
set_option linter.unusedSimpArgs false
section
namespace Go.Proofs.Ytmdfgidejdiiiaa
open Go.RowKit
theorem bl_facts : ∀ (x : Nat), 0 < x → x < 2 ^ 64 → 1 ≤ Lib.bitLen x ∧ 2 ^ (Lib.bitLen x - 1) ≤ x ∧ x < 2 ^ Lib.bitLen x := fun x => by
  induction x using Nat.strongRecOn with
  | ind x ih =>
    intro h0 h1
    have e := Lib.bitLen_half x (by omega) h1
    rw [e]
    by_cases h2 : x / 2 = 0
    · have : x = 1 := by omega
      subst this
      refine ⟨by omega, by decide, by decide⟩
    · obtain ⟨a, b, c⟩ := ih (x / 2) (by omega) (by omega) (by omega)
      obtain ⟨k, hk⟩ : ∃ k, Lib.bitLen (x / 2) = k + 1 := ⟨Lib.bitLen (x / 2) - 1, by omega⟩
      rw [hk] at b c ⊢
      rw [show 1 + (k + 1) - 1 = k + 1 by omega, show 1 + (k + 1) = (k + 1) + 1 by omega]
      simp only [Nat.add_sub_cancel] at b
      rw [Nat.pow_succ] at c ⊢
      rw [Nat.pow_succ 2 (k + 1), Nat.pow_succ]
      refine ⟨by omega, by omega, by omega⟩
theorem lz_facts {y : Int} (h0 : 0 < y) (h1 : y < 4294967296) : ∃ s : Nat, 32 - (Lib.bitLen y.toNat : Int) = (s : Int) ∧ s < 32 ∧ 2147483648 ≤ 2 ^ s * y ∧ 2 ^ s * (y + 1) ≤ 4294967296 := by
  obtain ⟨x, rfl⟩ := Int.eq_ofNat_of_zero_le (show 0 ≤ y by omega)
  rw [Int.toNat_natCast]
  obtain ⟨a, b, c⟩ := bl_facts x (by omega) (by omega)
  have h32 := Lib.bitLen_le x 32 (by omega) (by omega)
  obtain ⟨k, hk⟩ : ∃ k, Lib.bitLen x = k + 1 := ⟨Lib.bitLen x - 1, by omega⟩
  rw [hk] at a b c h32 ⊢
  have e1 : 2 ^ (32 - (k + 1)) * 2 ^ k = 2147483648 := by rw [← Nat.pow_add, show 32 - (k + 1) + k = 31 by omega]
  have e2 : 2 ^ (32 - (k + 1)) * 2 ^ (k + 1) = 4294967296 := by rw [← Nat.pow_add, show 32 - (k + 1) + (k + 1) = 32 by omega]
  rw [Nat.add_sub_cancel] at b
  refine ⟨32 - (k + 1), by omega, by omega, ?_, ?_⟩
  · have := Nat.mul_le_mul_left (2 ^ (32 - (k + 1))) b
    rw [e1] at this
    rw [pow2_nat]
    generalize 2 ^ (32 - (k + 1)) = P at this ⊢
    rw [← Int.natCast_mul]
    omega
  · have := Nat.mul_le_mul_left (2 ^ (32 - (k + 1))) (show x + 1 ≤ 2 ^ (k + 1) by omega)
    rw [e2] at this
    rw [pow2_nat]
    generalize 2 ^ (32 - (k + 1)) = P at this ⊢
    rw [show (x : Int) + 1 = ((x + 1 : Nat) : Int) by omega, ← Int.natCast_mul]
    omega
theorem dig_le {L : List Int} {m : Nat} {x : Int} (hd : Dig L) (hx : L[m]? = some x) : bp m * x ≤ nv L := by
  have hm := (List.getElem?_eq_some_iff.1 hx).1
  have h1 := nv_split L (m + 1) (by omega)
  rw [nv_take hx] at h1
  have h2 := nv_low (hd.take m)
  have h3 := Int.mul_nonneg (Int.le_of_lt (bp_pos (m + 1))) (nv_low (hd.drop (m + 1)))
  omega
theorem zero_of_lt {L : List Int} {s : Nat} (hd : Dig L) (h : nv L < bp s) : ZeroFrom L s := fun m x hm hx => by
  have h1 := dig_le hd hx
  have h2 := hd.at_ hx
  have h3 := bp_le hm
  have h4 := bp_pos m
  rcases (show x = 0 ∨ 1 ≤ x by omega) with h5 | h5
  · exact h5
  · exfalso
    have := mul_mono' (c := bp m) h5 (by omega)
    omega
theorem top_dig {V : List Int} {m : Nat} {x a : Int} (hd : Dig V) (hx : V[m]? = some x) (hl : V.length = m + 1) (h : bp m * a ≤ nv V) : a ≤ x := by
  have h1 := nv_take hx
  rw [take_len (by omega)] at h1
  have h2 := nv_lt (hd.take m)
  rw [List.length_take, Nat.min_eq_left (by omega)] at h2
  have h3 := bp_pos m
  have h4 : bp m * a < bp m * (x + 1) := by rw [Int.mul_add, Int.mul_one]; omega
  have := Int.lt_of_mul_lt_mul_left h4 (by omega)
  omega
theorem seg_split {L : List Int} {j n : Nat} (hz : ZeroFrom L (j + n + 1)) (hl : j + n + 1 ≤ L.length) : nv L = nv (L.take j) + bp j * nv ((L.drop j).take (n + 1)) := by
  have h1 := nv_split L j (by omega)
  have h3 := nv_split (L.drop j) (n + 1) (by rw [List.length_drop]; omega)
  rw [List.drop_drop, nv_zeros (l := L.drop (j + (n + 1))) fun x hx => by
    obtain ⟨k, hk⟩ := List.getElem?_of_mem hx
    rw [List.getElem?_drop] at hk
    exact hz (j + (n + 1) + k) x (by omega) hk, Int.mul_zero, Int.add_zero] at h3
  rw [h1, h3]
theorem div_step {N V Q D T : Int} {j : Nat} (h : N + bp (j + 1) * (D * V) = T) : N - bp j * (Q * V) + bp j * ((Q + 4294967296 * D) * V) = T := by
  rw [Int.add_mul, Int.mul_add, Int.mul_assoc 4294967296, ← Int.mul_assoc (bp j) 4294967296, Int.mul_comm (bp j) 4294967296, ← bp_succ]
  omega
def dvF (b : Nat) (U Q : Value) (UN : Value) (m s p : Nat) (R : Int) (Dv : Int) : Nat → Value → World → Prop
  | 0, v, _ => v = Q
  | 1, v, w => ∃ l, OwG b w v l ∧ nv l = Dv ∧ Nrm l ∧ l.length ≤ p
  | 2, v, _ => v = U
  | 3, v, _ => v = .int .i64 (m : Int)
  | 4, v, _ => v = UN
  | 5, v, _ => v = .int .u64 (s : Int)
  | 6, v, w => ∃ g l, v = .slice (some ⟨g, 0, none⟩) m m ∧ OwG b w v l ∧ nv l = R
  | 7, v, w => ∃ l, OwG b w v l ∧ nv l = R ∧ Nrm l ∧ l.length ≤ m
  | _, _, _ => True
theorem dvF_keep {b : Nat} {U Q UN : Value} {m s p : Nat} {R Dv : Int} {w w' : World} (h : Below w.heap.size w w') : ∀ i v, dvF b U Q UN m s p R Dv i v w → dvF b U Q UN m s p R Dv i v w'
  | 0, _, e | 2, _, e | 3, _, e | 4, _, e | 5, _, e => e
  | 1, _, ⟨l, ho, e⟩ | 7, _, ⟨l, ho, e⟩ => ⟨l, ho.grow h, e⟩
  | 6, _, ⟨g, l, e, ho, hr⟩ => ⟨g, l, e, ho.grow h, hr⟩
  | _ + 8, _, _ => trivial
set_option maxRecDepth 100000 in
set_option maxHeartbeats 4000000 in
theorem nt_divide_big (A B : Option Addr) (p m c d : Nat) (X Y : List Int) (w : World) (hX : DigA w A X) (hY : DigA w B Y) (hp : X.length = p) (hm : Y.length = m) (hc : p ≤ c) (hd : m ≤ d) (h9 : p ≤ 10000000) (nX : Nrm X) (nY : Nrm Y) (h2 : 2 ≤ m) (hge : nv Y ≤ nv X) :
    Calls Try.prog 128 #[.slice A p c, .slice B m d] w (RetQR w (nv X / nv Y) (nv X % nv Y) p m) := by
  have hmp : m ≤ p := by
    rcases Nat.lt_or_ge p m with h | h
    · have := nrm_lt hX.dig hY.dig nY (by omega); omega
    · exact h
  have CQ : Hid (Calls Try.prog 95 #[.slice A p c, .slice B m d] w fun e w' => e = .returned (.int .i64 (cmpI (nv X) (nv Y))) ∧ Below w.heap.size w w') := nt_Compare A B p m c d X Y w hX hY hp hm hc hd (by omega) (by omega)
  have hx : ¬ cmpI (nv X) (nv Y) < 0 := by unfold cmpI; rw [if_neg (by omega)]; split <;> omega
  obtain ⟨R, hR⟩ : ∃ R, cmpI (nv X) (nv Y) = R := ⟨_, rfl⟩
  rw [hR] at CQ hx
  obtain ⟨m1, hm1⟩ : ∃ k, m = k + 1 := ⟨m - 1, by omega⟩
  obtain ⟨bd, y1, rfl, hbb, hy1, hcy, y1a, y1b⟩ := hY.at_ (k := m1) (by omega)
  have hy0 : 0 < y1 := by have := nY m1 y1 (by omega) hy1; omega
  obtain ⟨s, hs, hs32, hsl, hsh⟩ := lz_facts hy0 y1b
  have CZ : Hid (∀ w1, Calls Try.prog 137 #[.int .u32 y1] w1 fun e w' => e = .returned (.int .i64 (s : Int)) ∧ w1 = w') := Lib.hid fun w1 => (hs ▸ Try.bits_LeadingZeros32 y1 w1 y1a (by omega)).mono fun e w' h => ⟨h.1, h.2.symm⟩
  have hps := pow2_pos s
  have hpu := pow_up hs32
  have h1 := nv_lt hX.dig
  rw [hp] at h1
  have hxl := nv_low hX.dig
  have hfx : 2 ^ s * nv X < bp (p + 1) := by
    rw [bp_succ]
    have a1 := mul_mono (a := 2 ^ s) (b := 2147483648) (c := nv X) hpu hxl
    have := bp_pos p; omega
  have hty : nv Y = nv (Y.take m1) + bp m1 * y1 := by
    have := nv_take hy1
    rw [take_len (by omega)] at this
    exact this
  have hy2 := nv_lt (hY.dig.take m1)
  rw [List.length_take, Nat.min_eq_left (by omega)] at hy2
  have hy3 := nv_low (hY.dig.take m1)
  have hbm := bp_pos m1
  have hbig : ∀ z, p + 1 = m + z → 2 ^ s * nv X < bp z * (2 ^ s * nv Y) := fun z hz => by
    have a1 : bp p = bp z * bp m1 := by rw [← bp_add]; congr 1; omega
    have a2 := mul_mono' (a := bp m1) (b := nv Y) (c := bp z) (by have := mul_mono' (a := 1) (b := y1) (c := bp m1) (by omega) (by omega); omega) (by have := bp_pos z; omega)
    have a3 : 2 ^ s * nv X < 2 ^ s * (bp z * nv Y) := Int.mul_lt_mul_of_pos_left (by omega) hps
    rw [Int.mul_left_comm] at a3
    exact a3
  have hfy : 2 ^ s * nv Y < bp m := by
    rw [hm1, bp_succ]
    have a1 := mul_mono' (a := nv Y + 1) (b := bp m1 * (y1 + 1)) (c := 2 ^ s) (by rw [Int.mul_add]; omega) (by omega)
    have a2 := mul_mono' (a := 2 ^ s * (y1 + 1)) (b := 4294967296) (c := bp m1) hsh (by omega)
    rw [Int.mul_left_comm] at a2
    rw [Int.mul_add, Int.mul_one] at a1
    omega
  have hty2 : bp m1 * 2147483648 ≤ 2 ^ s * nv Y := by
    have a2 := mul_mono' (a := 2147483648) (b := 2 ^ s * y1) (c := bp m1) hsl (by omega)
    rw [Int.mul_left_comm] at a2
    have a3 := mul_mono' (a := bp m1 * y1) (b := nv Y) (c := 2 ^ s) (by omega) (by omega)
    omega
  have hyp : 0 < nv Y := by have := Int.mul_pos hbm hy0; omega
  obtain ⟨N, hN⟩ : ∃ N, p + 1 = N := ⟨_, rfl⟩
  have CU : Hid (∀ w1, Below w.heap.size w w1 → Calls Try.prog 138 #[.slice A p c, .int .u64 s, .int .i64 (N : Int)] w1 (RetOwn w1 (2 ^ s * nv X) N)) := Lib.hid fun w1 hb => nt_lift A p c s N X w1 (hX.grow hb) hp hc hs32 (.inr hN.symm) (by omega) (hN ▸ hfx)
  have CV : Hid (∀ w1, Below w.heap.size w w1 → Calls Try.prog 138 #[.slice (some bd) m d, .int .u64 s, .int .i64 m] w1 (RetOwn w1 (2 ^ s * nv Y) m)) := Lib.hid fun w1 hb => nt_lift (some bd) m d s m Y w1 (hY.grow hb) hm hd hs32 (.inl rfl) (by omega) hfy
  obtain ⟨z, hz⟩ : ∃ z, p + 1 = m + z := ⟨p + 1 - m, by omega⟩
  have q1 : IntKind.i64.wrap ((p : Int) - (m : Int)) = (z : Int) - 1 := (IntWalk.i64_in _ (by omega)).trans (by omega)
  have q2 : IntKind.i64.wrap ((z : Int) - 1 + 1) = (z : Int) := (IntWalk.i64_in _ (by omega)).trans (by omega)
  have q3 : IntKind.i64.wrap ((m : Int) - 1) = (m1 : Int) := (IntWalk.i64_in _ (by omega)).trans (by omega)
  have q4 : IntKind.i64.wrap ((p : Int) + 1) = (N : Int) := (IntWalk.i64_in _ (by omega)).trans (by omega)
  have x0 : (m1 : Int) < (m : Int) := by omega
  have x1 : ((m : Int) == 1) = false := by simp; omega
  have x2 : (m : Int) ≠ 1 := by omega
  have HYC := Lib.hid (And.intro hbb hcy)
  have hbz := hbig z hz
  obtain ⟨VX, hVX⟩ : ∃ v, 2 ^ s * nv X = v := ⟨_, rfl⟩
  obtain ⟨VY, hVY⟩ : ∃ v, 2 ^ s * nv Y = v := ⟨_, rfl⟩
  rw [hVX] at CU hfx
  rw [hVY] at CV hfy hty2 hbz
  rw [hVX] at hbz
  have HBZ := Lib.hid hbz
  have HV := Lib.hid (And.intro hVX (And.intro hVY hyp))
  rw [hN] at hfx
  have HF := Lib.hid (And.intro hfx (And.intro hfy hty2))
  have HM1 := Lib.hid (And.intro hm1 (And.intro hz (And.intro hmp hN)))
  have HVY0 : Hid (0 < VY) := Lib.hid (by rw [← hVY]; exact Int.mul_pos hps hyp)
  obtain ⟨VQ, hVQ⟩ : ∃ v, nv X / nv Y = v := ⟨_, rfl⟩
  obtain ⟨VR, hVR⟩ : ∃ v, nv X % nv Y = v := ⟨_, rfl⟩
  rw [hVQ, hVR]
  have HQR := Lib.hid (And.intro hVQ hVR)
  clear hX hY hp hm hR hge nX nY hy1 hcy y1a y1b hy0 hs hsl hsh hpu h1 hxl hfx hty hy2 hy3 hbm hfy hty2 hyp hVX hVY hVQ hVR hm1 hz hbb hN hbig hbz
  go_enter Try.func128, Try.ntmps128
  go_upto_region 3 with (go_at_call 95; (with_reducible refine CQ.out.mono ?_); rintro e1 w1 ⟨rfl, hb1⟩; have HB1 := Lib.hid hb1; clear hb1)
  clear CQ hx
  go_upto_region 4 with fail
  have hz8 : z ≤ 10000001 := by have := HM1.out; omega
  have hm8 : m ≤ 10000000 := by have := HM1.out; omega
  go_upto_region 5 with ((with_reducible show wpList _ _ _ (Oper.mk _ (.makeSlice _ _ _) _ _ _ _ :: _) _ _); refine mk_dig rfl _ _ rfl w.heap.size z rfl rfl rfl (by omega) HB1.out.size ?_; intro w3 ho3 hb3; have HO3 := Lib.hid ho3; have HB3 := Lib.hid (below_then HB1.out hb3); clear ho3 hb3)
  have hyc3 : w3.cell? (bd.add m1) = some (.int .u32 y1) := (HB3.out.cell (by rw [block_add]; exact HYC.out.1)).trans HYC.out.2
  go_upto_region 15 with (go_at_call 137; (with_reducible refine (CZ.out _).mono ?_); rintro e2 w2 ⟨rfl, rfl⟩)
  have hN8 : N ≤ 10000001 := by have := HM1.out; omega
  go_upto_region 16 with (go_at_call 138; first
    | ((with_reducible refine (CU.out _ HB3.out).mono ?_); rintro e4 w4 ⟨gu, LU, rfl, hou, hnu, hb4⟩; have HOU := Lib.hid hou; have HNU := Lib.hid hnu; have HB4 := Lib.hid hb4; clear hou hnu hb4)
    | ((with_reducible refine (CV.out _ (below_then HB3.out HB4.out)).mono ?_); rintro e5 w5 ⟨gv, LV, rfl, hov, hnv, hb5⟩; have HOV := Lib.hid hov; have HNV := Lib.hid hnv; have HB5 := Lib.hid hb5; clear hov hnv hb5))
  have HG : Hid (w.heap.size ≤ w1.heap.size) := Lib.hid HB1.out.size
  obtain ⟨gq, hgq⟩ : ∃ g, g = w1.heap.size := ⟨_, rfl⟩
  have hgq3 : gq < w3.heap.size := by have := HO3.out.block.2; rw [hgq]; exact this
  rw [← hgq] at HO3 HG ⊢
  have HOQ5 := Lib.hid ((HO3.out.grow HB4.out).grow HB5.out)
  have HOU5 := Lib.hid ((HOU.out.grow HB5.out).base HB3.out.size)
  have HUV : Hid ((gq < gu ∧ gu < gv) ∧ w.heap.size ≤ gq) := Lib.hid (by
    have h1 := HOU.out.block
    have h3 := HOV.out.block
    have h4 := HG.out
    exact ⟨⟨by omega, by omega⟩, h4⟩)
  have HW5 := Lib.hid (below_then (below_then HB3.out HB4.out) HB5.out)
  have HVL : Hid (LV.length = m) := Lib.hid HOV.out.len.1
  have HVT : Hid (∀ x, LV[m - 1]? = some x → 2147483648 ≤ x) := Lib.hid fun x hx => by
    have h1 := HM1.out
    exact top_dig (m := m - 1) HOV.out.dig hx (by rw [HVL.out]; omega) (by rw [HNV.out, show m - 1 = m1 by omega]; exact HF.out.2.2)
  have HVA := Lib.hid HOV.out.digA
  clear hgq hgq3 HO3 HOU HOV HB3 HB4 HB5 HB1 CU CV CZ hyc3 HYC q4 x0 q3
  go_wp2_with fail
  go_loopw [14] (fun i wr => ∃ (k : Nat) (t : Int) (Lu D : List Int), k ≤ z ∧ i = .int .i64 t ∧ Hid (t = (k : Int) - 1) ∧ Hid (nv Lu + bp k * (nv D * VY) = VX) ∧ Hid (nv Lu < bp k * VY) ∧ Hid (OwG w.heap.size wr (.slice (some ⟨gu, 0, none⟩) N N) Lu) ∧ Hid (OwG w.heap.size wr (.slice (some ⟨gq, 0, none⟩) z z) (List.replicate k 0 ++ D)) ∧ Hid (DigA wr (some ⟨gv, 0, none⟩) LV) ∧ Hid (Below w.heap.size w wr)) (fun i _ => (intOf i + 1).toNat)
  case atStart => exact ⟨z, (z : Int) - 1, LU, [], Nat.le_refl _, rfl, Lib.hid rfl, Lib.hid (by rw [HNU.out]; simp [nv]), Lib.hid (by rw [HNU.out]; exact HBZ.out), HOU5, Lib.hid (by rw [List.append_nil]; exact HOQ5.out), HVA, HW5⟩
  case round =>
    obtain ⟨k, t, Lu, D, hk, rfl, HT, HS, HLT, HOU, HOQ, HVV, HBW⟩ := hrel
    have huv := HUV.out
    have hmm := HM1.out
    by_cases hk0 : k = 0
    · subst hk0
      obtain rfl : t = -1 := by have := HT.out; omega
      have hps' := pow2_pos s
      have hsum : nv D = VQ ∧ nv Lu = 2 ^ s * VR := by
        have h1 := HS.out
        have h3 := HLT.out
        rw [bp_zero, Int.one_mul] at h1 h3
        have h4 := nv_low HOU.out.dig
        have h5 := HV.out
        have h6 : VX / VY = nv D := by
          rw [← h1, Int.mul_comm, Int.add_mul_ediv_left _ _ (by omega), Int.ediv_eq_zero_of_lt h4 h3]; omega
        have h7 : VX % VY = nv Lu := by
          rw [← h1, Int.add_mul_emod_self_right, Int.emod_eq_of_lt h4 h3]
        rw [← h5.1, ← h5.2.1, Int.mul_ediv_mul_of_pos _ _ hps'] at h6
        rw [← h5.1, ← h5.2.1, Int.mul_emod_mul_of_pos _ _ hps'] at h7
        exact ⟨h6.symm.trans HQR.out.1, by rw [← h7, HQR.out.2]⟩
      have hvm : VY < bp m := HF.out.2.1
      have hlt : nv Lu < bp m := by have h3 := HLT.out; rw [bp_zero, Int.one_mul] at h3; omega
      have hlu := HOU.out.len.1
      have htk := (zero_lt HOU.out.dig (zero_of_lt HOU.out.dig hlt) (by rw [hlu]; omega)).1
      have ho := HOQ.out
      rw [List.replicate_zero, List.nil_append] at ho
      have HOE := Lib.hid ho
      have HOC := Lib.hid (HOU.out.cut (k := m) (by omega))
      have CC : Hid (∀ w9, Below wr.heap.size wr w9 → Calls Try.prog 115 #[.slice (some ⟨gq, 0, none⟩) z z] w9 (RetCut w9 (some ⟨gq, 0, none⟩) z D)) := Lib.hid fun w9 hb => nt_cut _ _ _ _ w9 (ho.grow hb).digA ho.len.1 (Nat.le_refl _) (by omega)
      have CW : Hid (∀ w9, Below wr.heap.size wr w9 → Calls Try.prog 140 #[.slice (some ⟨gu, 0, none⟩) m N, .int .u64 s] w9 (RetOwn w9 VR m)) := Lib.hid fun w9 hb => by
        have h := nt_lower (some ⟨gu, 0, none⟩) m N s (Lu.take m) w9 (HOC.out.grow hb).digA (by rw [List.length_take, hlu]; omega) (by omega) hs32 (by omega)
        rw [← htk, hsum.2, Int.mul_ediv_cancel_left _ (by omega)] at h
        exact h
      have CT : Hid (∀ w9 g l, OwG w.heap.size w9 (.slice (some ⟨g, 0, none⟩) m m) l → Calls Try.prog 115 #[.slice (some ⟨g, 0, none⟩) m m] w9 (RetCut w9 (some ⟨g, 0, none⟩) m l)) := Lib.hid fun w9 g l ho => nt_cut _ _ _ _ w9 ho.digA ho.len.1 (Nat.le_refl _) (by omega)
      have HDV := Lib.hid hsum.1
      have x5 : m ≤ N := by omega
      have x6 : z ≤ p := by omega
      clear ho hsum hvm hlt hlu htk hps' HS HLT HOU HOQ HVV HT hmm huv
      go_upto_region 20 with fail
      refine wp_region_grow2 (fun i => Nat.blt i 8) (fun _ => false) (fun w9 => Below wr.heap.size wr w9) (fun a b => Below a.heap.size a b) (dvF w.heap.size (.slice (some ⟨gu, 0, none⟩) N N) (.slice (some ⟨gq, 0, none⟩) z z) (.slice (some ⟨gu, 0, none⟩) m N) m s p VR VQ) (by kernel_rfl) (by kernel_rfl) (Below.refl _ _).drew (fun a b h1 h2 => ⟨below_then h1 h2, fun i _ v => dvF_keep h2 i v⟩) (fun _ _ => Below.refl _ _) ?_ (fun _ _ _ _ h => by cases h) ?_
      · refine ⟨?_, ?_, ?_, ?_, ?_, ?_, ?_, ?_, trivial⟩
        all_goals
          intro vs w9 hp hF
          have HP := Lib.hid hp
          clear hp
          simp [depsB, Region.binds, dvF] at hF
          simp [stL, depsB, Region.binds, Act.put, hF]
        · (go_wp2_with fail; exact ⟨rfl, Below.refl _ _⟩)
        · go_wp2_with (go_at_call 115; (with_reducible refine (CC.out _ HP.out).mono ?_); intro e1 w1' h1; obtain ⟨v1, l1, rfl, o1, n1, r1, k1, -⟩ := RetCut.toN (HOE.out.grow HP.out) (below_then HBW.out HP.out) h1; obtain ⟨_, _, e1', hb1⟩ := h1)
          exact ⟨l1, o1, n1.trans HDV.out, r1, Nat.le_trans k1 x6⟩
        · (go_wp2_with fail; exact ⟨rfl, Below.refl _ _⟩)
        · (go_wp2_with fail; exact ⟨rfl, Below.refl _ _⟩)
        · (go_wp2_with fail; exact ⟨rfl, Below.refl _ _⟩)
        · (go_wp2_with fail; exact ⟨rfl, Below.refl _ _⟩)
        · go_wp2_with (go_at_call 140; (with_reducible refine (CW.out _ HP.out).mono ?_); rintro e1 w1' ⟨g1, l1, rfl, o1, n1, hb1⟩)
          exact ⟨g1, l1, rfl, o1.base (below_then HBW.out HP.out).size, n1⟩
        · obtain ⟨⟨g6, e6⟩, l6, o6, n6⟩ := hF
          rw [e6] at o6
          simp only [e6]
          have HO6 := Lib.hid o6
          clear o6
          go_wp2_with (go_at_call 115; (with_reducible refine (CT.out _ _ _ HO6.out).mono ?_); intro e1 w1' h1; obtain ⟨v1, l1, rfl, o1, n1, r1, k1, -⟩ := RetCut.toN HO6.out (below_then HBW.out HP.out) h1; obtain ⟨_, _, e1', hb1⟩ := h1)
          exact ⟨l1, o1, n1.trans n6, r1, k1⟩
      intro vs w9 hp hF
      have e1 : ∃ l, OwG w.heap.size w9 (vs 1) l ∧ nv l = VQ ∧ Nrm l ∧ l.length ≤ p := hF 1 (by decide) rfl
      have e7 : ∃ l, OwG w.heap.size w9 (vs 7) l ∧ nv l = VR ∧ Nrm l ∧ l.length ≤ m := hF 7 (by decide) rfl
      have HE := Lib.hid (And.intro e1 (And.intro e7 (below_then HBW.out hp)))
      clear e1 e7 hp hF
      show wpList Try.prog _ _ [_, _] _ _
      simp [stL, Act.put]
      generalize vs 0 = z0 at HE ⊢
      generalize vs 1 = z1 at HE ⊢
      generalize vs 2 = z2 at HE ⊢
      generalize vs 3 = z3 at HE ⊢
      generalize vs 4 = z4 at HE ⊢
      generalize vs 5 = z5 at HE ⊢
      generalize vs 6 = z6 at HE ⊢
      generalize vs 7 = z7 at HE ⊢
      go_wp2_with fail
      go_ret2
      obtain ⟨⟨l1, h1⟩, ⟨l2, h2⟩, h3⟩ := HE.out
      exact ⟨_, l1, _, l2, rfl, h1, h2, h3⟩
    · obtain ⟨j, rfl⟩ : ∃ j, k = j + 1 := ⟨k - 1, by omega⟩
      obtain rfl : t = (j : Int) := by have := HT.out; omega
      obtain ⟨hlu, -⟩ := HOU.out.len
      have hvm : VY < bp m := HF.out.2.1
      have hzf : ZeroFrom Lu (j + m + 1) := zero_of_lt HOU.out.dig (by
        have h1 := HLT.out
        have h3 := mul_mono' (a := VY) (b := bp m) (c := bp (j + 1)) (by omega) (by have := bp_pos (j + 1); omega)
        rw [← bp_add, show j + 1 + m = j + m + 1 by omega] at h3
        omega)
      have hsg := seg_split (j := j) (n := m) hzf (by omega)
      have hlo : 0 ≤ nv (Lu.take j) ∧ nv (Lu.take j) < bp j := by
        have h1 := nv_lt (HOU.out.dig.take j)
        rw [List.length_take, Nat.min_eq_left (by omega)] at h1
        exact ⟨nv_low (HOU.out.dig.take j), h1⟩
      obtain ⟨U, hU⟩ : ∃ U, nv ((Lu.drop j).take (m + 1)) = U := ⟨_, rfl⟩
      have hbj := bp_pos j
      have hUB : U < 4294967296 * VY := by
        have h1 := HLT.out
        rw [bp_succ, Int.mul_comm 4294967296, Int.mul_assoc] at h1
        rw [hU] at hsg
        have h3 : bp j * U < bp j * (4294967296 * VY) := by omega
        exact Int.lt_of_mul_lt_mul_left h3 (by omega)
      have CD : Hid (∀ cc, Calls Try.prog 139 #[.slice (some ⟨gu, j, none⟩) (j + m + 1 - j) cc, .slice (some ⟨gv, 0, none⟩) m m] wr (RetDigit w.heap.size wr gu N N (nv Lu - bp j * (U / VY * VY)) (U / VY))) := Lib.hid fun cc => by
        have h := nt_digit w.heap.size gu N N j m cc m Lu LV (some ⟨gv, 0, none⟩) wr HOU.out HVV.out (fun a e => by injection e with e; rw [← e]; show gv ≠ gu; omega) HVL.out h2 (by omega) (by omega) hzf HVT.out (by rw [hU, HNV.out]; exact hUB)
        rw [hU, HNV.out] at h
        rw [show j + m + 1 - j = m + 1 by omega]
        exact h
      have hq0 : 0 ≤ U / VY ∧ U / VY < 4294967296 := by
        have h1 := HVY0.out
        have h3 := nv_low ((HOU.out.dig.drop j).take (m + 1))
        rw [hU] at h3
        refine ⟨Int.ediv_nonneg h3 (by omega), ?_⟩
        obtain ⟨h4, -⟩ := quo_of (U := U) h1
        have : U / VY * VY < 4294967296 * VY := by omega
        exact Int.lt_of_mul_lt_mul_right this (by omega)
      obtain ⟨h4, h5⟩ := quo_of (U := U) HVY0.out
      obtain ⟨Q, hQ⟩ : ∃ q, U / VY = q := ⟨_, rfl⟩
      rw [hQ] at CD hq0 h4 h5
      have HST := Lib.hid (div_step (Q := Q) HS.out)
      have HLN : Hid (nv Lu - bp j * (Q * VY) < bp j * VY) := Lib.hid (by
        rw [hsg, hU]
        have h6 := mul_mono' (a := U - Q * VY + 1) (b := VY) (c := bp j) (by rw [Int.add_mul] at h5; omega) (by omega)
        rw [Int.mul_add, Int.mul_sub, Int.mul_one] at h6
        omega)
      have x0 : (0 : Int) ≤ (j : Int) := by omega
      have x1 : (j : Int) < (z : Int) := by omega
      have x3 : IntKind.i64.wrap ((j : Int) - 1) = (j : Int) - 1 := IntWalk.i64_in _ (by omega)
      have x4 : j + m + 1 ≤ N := by omega
      have x5 : N ≠ j := by omega
      have HK := Lib.hid hk
      clear hsg hlo hU hbj hUB hzf hlu hvm hQ h4 h5 HT hk hk0 hmm huv
      have HNE : Hid (gq ≠ gu ∧ gv ≠ gu) := Lib.hid (by have := HUV.out; omega)
      have HUG : Hid (w.heap.size ≤ gu) := Lib.hid (by have := HUV.out; omega)
      have HQ0 := Lib.hid hq0
      go_upto_region 19 with fail
      go_wp2_with (go_at_call 139; (with_reducible refine (CD.out _).mono ?_); rintro e6 w6 ⟨L', rfl, ho', hn', hg'⟩; have HO6 := Lib.hid ho'; have HN6 := Lib.hid hn'; have HG6 := Lib.hid hg'; have hoq := HOQ.out.kept hg' (fun e => HNE.out.1 (by injection e)); have HOQ6 := Lib.hid hoq; have zc := hoq.cell (k := j) (y := 0) (by rw [List.getElem?_append_left (by simp), List.getElem?_replicate, if_pos (by omega)]); have zf := hoq.free j; clear ho' hn' hg' hoq)
      have hse := HOQ6.out.set j (y := Q) HQ0.out
      rw [set_front] at hse
      have HSE := Lib.hid hse
      have hg7 : w6.grownBy (w6.setCell ⟨gq, j, none⟩ (.int .u32 Q)) (some gq) := grownSet (grownB (Below.refl _ _))
      have HO7 := Lib.hid (HO6.out.kept hg7 (fun e => HNE.out.1 (by injection e with e; exact e.symm)))
      have HV7 := Lib.hid ((HVV.out.kept HG6.out (fun a e => by injection e with e; rw [← e]; exact HNE.out.2)).kept hg7 (fun a e => by injection e with e; rw [← e]; have := HUV.out; show gv ≠ gq; omega))
      have HB7 : Hid (Below w.heap.size w (w6.setCell ⟨gq, j, none⟩ (.int .u32 Q))) := Lib.hid (grown_to (grown_to HBW.out HG6.out HUG.out) hg7 HUV.out.2)
      have HS7 : Hid (nv L' + bp j * (nv (Q :: D) * VY) = VX) := Lib.hid (by rw [HN6.out]; exact HST.out)
      have HL7 : Hid (nv L' < bp j * VY) := Lib.hid (by rw [HN6.out]; exact HLN.out)
      clear hse hg7 HOQ6 HO6 HVV HBW HOU HOQ
      go_roundw
      case rel => exact ⟨j, (j : Int) - 1, L', Q :: D, by have := HK.out; omega, by go_num, Lib.hid rfl, HS7, HL7, HO7, HSE, HV7, HB7⟩
      case measure => simp [intOf]
end Go.Proofs.Ytmdfgidejdiiiaa
end
section
namespace Go.Proofs.Ytmdfgidejdiiiaa
open Go.RowKit
theorem nv_len1 {l : List Int} (h : l.length = 1) : ∃ y, l = [y] := List.length_eq_one_iff.1 h
theorem nt_divide (A B : Option Addr) (p m c d : Nat) (X Y : List Int) (w : World) (hX : DigA w A X) (hY : DigA w B Y) (hp : X.length = p) (hm : Y.length = m) (hc : p ≤ c) (hd : m ≤ d) (h9 : p ≤ 10000000) (h8 : m ≤ 10000000) (nX : Nrm X) (nY : Nrm Y) (h0 : Y ≠ []) :
    Calls Try.prog 128 #[.slice A p c, .slice B m d] w (RetQR w (nv X / nv Y) (nv X % nv Y) p m) := by
  rcases Int.lt_or_le (nv X) (nv Y) with h | h
  · exact nt_divide_lt A B p m c d X Y w hX hY hp hm hc hd h9 h8 nX nY h
  · have hm0 : 0 < m := by rw [← hm]; exact List.length_pos_iff.2 h0
    by_cases h1 : m = 1
    · subst h1
      obtain ⟨y, rfl⟩ := nv_len1 hm
      rw [nv_one] at h ⊢
      have hy : y ≠ 0 := nY 0 y rfl rfl
      exact nt_divide_one A B p c d X y w hX hY hp hc hd h9 nX hy h
    · exact nt_divide_big A B p m c d X Y w hX hY hp hm hc hd h9 nX nY (by omega) h
def RetQRE (w : World) (q r : Int) (K M : Nat) (e : Ending) (w' : World) : Prop := ∃ v1 l1 v2 l2, e = .returned (.tuple #[v1, v2, .int .i64 0]) ∧ (OwG w.heap.size w' v1 l1 ∧ nv l1 = q ∧ Nrm l1 ∧ l1.length ≤ K) ∧ (OwG w.heap.size w' v2 l2 ∧ nv l2 = r ∧ Nrm l2 ∧ l2.length ≤ M) ∧ Below w.heap.size w w'
theorem nt_DivMod (A B : Option Addr) (p m c d : Nat) (X Y : List Int) (w : World) (hX : DigA w A X) (hY : DigA w B Y) (hp : X.length = p) (hm : Y.length = m) (hc : p ≤ c) (hd : m ≤ d) (h9 : p ≤ 10000000) (h8 : m ≤ 10000000) (h0 : nv Y ≠ 0) :
    Calls Try.prog 116 #[.slice A p c, .slice B m d] w (RetQRE w (nv X / nv Y) (nv X % nv Y) p m) := by
  have CX : Hid (∀ w1, Below w.heap.size w w1 → Calls Try.prog 115 #[.slice A p c] w1 (RetCut w1 A c X)) := Lib.hid fun w1 hb => nt_cut A p c X w1 (hX.grow hb) hp hc (by omega)
  have CY : Hid (Calls Try.prog 115 #[.slice B m d] w (RetCut w B d Y)) := nt_cut B m d Y w hY hm hd (by omega)
  have CD : Hid (∀ k j w1, CutN X k → CutN Y j → Below w.heap.size w w1 → Calls Try.prog 128 #[.slice A k c, .slice B j d] w1 (RetQR w1 (nv X / nv Y) (nv X % nv Y) p m)) := Lib.hid fun k j w1 hk hj hb => by
    have h1 := hk.le
    have h2 := hj.le
    have h3 : Y.take j ≠ [] := fun e => h0 (by rw [← hj.nv, e]; rfl)
    have h := nt_divide A B k j c d (X.take k) (Y.take j) w1 ((hX.grow hb).takeL k) ((hY.grow hb).takeL j) hk.len hj.len (by omega) (by omega) (by omega) (by omega) hk.nrm hj.nrm h3
    rw [hk.nv, hj.nv] at h
    refine h.mono ?_
    rintro e w' ⟨v1, l1, v2, l2, e1, ⟨a1, a2, a3, a4⟩, ⟨b1, b2, b3, b4⟩, hb'⟩
    exact ⟨v1, l1, v2, l2, e1, ⟨a1, a2, a3, by omega⟩, ⟨b1, b2, b3, by omega⟩, hb'⟩
  have HJ : Hid (∀ j, CutN Y j → j ≠ 0) := Lib.hid fun j hj e => h0 (by rw [← hj.nv, e]; rfl)
  clear hX hY hp hm
  go_enter Try.func116, Try.ntmps116
  go_wp2_with (first
    | (go_at_call 115; first
        | ((with_reducible refine CY.out.mono ?_); rintro e1 w1 ⟨j, hj, rfl, hb1⟩; have HB1 := Lib.hid hb1; have HJ1 := Lib.hid hj; have hj0 := HJ.out j hj; clear hb1 hj)
        | ((with_reducible refine (CX.out _ HB1.out).mono ?_); rintro e2 w2 ⟨k, hk, rfl, hb2⟩; have HB2 := Lib.hid (below_then HB1.out hb2); have HK1 := Lib.hid hk; clear hb2 hk))
    | (go_at_call 128; (with_reducible refine (CD.out _ _ _ HK1.out HJ1.out HB2.out).mono ?_); rintro e3 w3 ⟨v1, l1, v2, l2, rfl, ⟨a1, a2, a3, a4⟩, ⟨b1, b2, b3, b4⟩, hb3⟩))
  go_ret3
  exact ⟨v1, l1, v2, l2, rfl, ⟨a1.base HB2.out.size, a2, a3, a4⟩, ⟨b1.base HB2.out.size, b2, b3, b4⟩, below_then HB2.out hb3⟩
theorem or_add64' {a b : Int} {i : Nat} (hb : 0 ≤ b ∧ b < 18446744073709551616) (h : b % 2 ^ i = 0) (ha : 0 ≤ a ∧ a < 2 ^ i) (ha2 : a < 18446744073709551616) : bits BinOp.or IntKind.u64 a b = a + b := by
  rw [u64_or a b ha.1 ha2 hb.1 hb.2, Nat.or_comm, ← u64_or b a hb.1 hb.2 ha.1 ha2, or_add64 hb h ha ha2, Int.add_comm]
theorem nt_small (A : Option Addr) (n c : Nat) (l : List Int) (w : World) (h : DigA w A l) (hn : l.length = n) (h2 : n ≤ 2) : Calls Try.prog 130 #[.slice A n c] w fun e w' => e = .returned (.int .u64 (nv l)) ∧ Below w.heap.size w w' := by
  have HL := Lib.hid hn
  have H := Lib.hid h
  clear h hn
  go_enter Try.func130, Try.ntmps130
  go_upto_region 3 with fail
  go_loopw [3, 8] (fun v i wr => ∃ (k : Nat) (t : Int), k ≤ n ∧ i = .int .i64 k ∧ v = .int .u64 t ∧ Hid (t = nv (l.take k)) ∧ Hid (Below w.heap.size w wr)) (fun _ i _ => n - (intOf i).toNat)
  case atStart => exact ⟨0, 0, Nat.zero_le _, rfl, rfl, Lib.hid (by simp [nv]), Lib.hid (Below.refl _ _)⟩
  case round =>
    obtain ⟨k, t, hk, rfl, rfl, HT, HB⟩ := hrel
    by_cases hkn : k = n
    · subst hkn
      go_wp2_with fail
      go_ret
      refine ⟨?_, HB.out⟩
      rw [HT.out, take_len (by rw [HL.out]; exact Nat.le_refl _)]
      rfl
    · obtain ⟨ad, x, rfl, _, hx, hcx, i1, i2⟩ := (H.out.grow HB.out).at_ (k := k) (by rw [HL.out]; omega)
      have x0 : (k : Int) < (n : Int) := by omega
      have HX := Lib.hid hx
      clear hx
      rcases (show k = 0 ∨ k = 1 by omega) with e | e
      · subst e
        obtain rfl : t = 0 := by rw [HT.out]; simp [nv]
        rw [show ad.add 0 = ad from rfl] at hcx
        have z1 : bits BinOp.or IntKind.u64 0 x = x := (or_add64 (a := 0) (b := x) (i := 32) (by omega) (by simp) ⟨i1, i2⟩ (by omega)).trans (by omega)
        go_wp2_with fail
        go_roundw
        case rel => exact ⟨1, x, by omega, by go_num, by go_num, Lib.hid (by rw [nv_take HX.out]; simp [nv, bp_zero]), HB⟩
        case measure => simp [intOf]; omega
      · subst e
        have ht := H.out.dig.take 1
        have t0 := nv_low ht
        have t1 := nv_lt ht
        rw [List.length_take, Nat.min_eq_left (by rw [HL.out]; omega), bp_one, ← HT.out] at t1
        rw [← HT.out] at t0
        have z1 : bits BinOp.or IntKind.u64 t (x * 4294967296) = t + 4294967296 * x := (or_add64' (i := 32) (by omega) (Int.mul_emod_left _ _) ⟨t0, t1⟩ (by omega)).trans (by omega)
        clear ht
        have hcx : wr.cell? { block := ad.block, off := ad.off + 1 } = some (.int .u32 x) := hcx
        go_wp2_with fail
        go_roundw
        case rel => exact ⟨2, t + 4294967296 * x, by omega, by go_num, by go_num, Lib.hid (by rw [nv_take HX.out, ← HT.out, bp_one]), HB⟩
        case measure => simp [intOf]; omega
end Go.Proofs.Ytmdfgidejdiiiaa
end
section
namespace Go.Proofs.Ytmdfgidejdiiiaa
structure Leh (S p0 q0 x y : Int) (a b c d p q X Y : Int) : Prop where
  s : 0 < S
  x0 : S * p0 ≤ x
  x1 : x < S * p0 + S
  y0 : S * q0 ≤ y
  y1 : y < S * q0 + S
  hX : X = a * x + b * y
  hY : Y = c * x + d * y
  hp : p = a * p0 + b * q0
  hq : q = c * p0 + d * q0
  sg : (0 ≤ a ∧ b ≤ 0 ∧ c ≤ 0 ∧ 0 ≤ d) ∨ (a ≤ 0 ∧ 0 ≤ b ∧ 0 ≤ c ∧ d ≤ 0)
  pa : 0 ≤ p + a
  pb : 0 ≤ p + b
  qc : 0 ≤ q + c
  qd : 0 ≤ q + d
  det : a * d - b * c = 1 ∨ a * d - b * c = -1
  le : Y ≤ X
  nn : 0 ≤ Y
  ba : -2147483647 ≤ a ∧ a ≤ 2147483647
  bb : -2147483647 ≤ b ∧ b ≤ 2147483647
  bc : -2147483647 ≤ c ∧ c ≤ 2147483647
  bd : -2147483647 ≤ d ∧ d ≤ 2147483647
  ly : Y ≤ y
  lt : b = 0 ∨ Y < y
theorem Leh.zero {S p0 q0 x y : Int} (hs : 0 < S) (x0 : S * p0 ≤ x) (x1 : x < S * p0 + S) (y0 : S * q0 ≤ y) (y1 : y < S * q0 + S) (hp : 0 ≤ p0) (hq : 0 ≤ q0) (hle : y ≤ x) (hy : 0 ≤ y) : Leh S p0 q0 x y 1 0 0 1 p0 q0 x y :=
  ⟨hs, x0, x1, y0, y1, by omega, by omega, by omega, by omega, .inl (by omega), by omega, by omega, by omega, by omega, .inl (by omega), hle, hy, by omega, by omega, by omega, by omega, Int.le_refl _, .inl rfl⟩
theorem opp_low {S R e g u v t : Int} (hs : 0 < S) (hu : 0 ≤ u ∧ u < S) (hv : 0 ≤ v ∧ v < S) (h1 : t ≤ R + e) (h2 : t ≤ R + g) (h : (0 ≤ e ∧ g ≤ 0) ∨ (e ≤ 0 ∧ 0 ≤ g)) : S * t ≤ S * R + e * u + g * v := by
  rcases h with ⟨he, hg⟩ | ⟨he, hg⟩
  · have a1 := Int.mul_nonneg he hu.1
    have a2 := mul_mono (a := -g) (b := -g) (c := S - v) (Int.le_refl _) (by omega)
    have a3 : 0 ≤ (-g) * (S - v) := Int.mul_nonneg (by omega) (by omega)
    have a4 := mul_mono' (c := S) h2 (by omega)
    have e1 : (-g) * (S - v) = g * v - S * g := by (simp only [Int.mul_add, Int.add_mul, Int.mul_sub, Int.sub_mul, Int.neg_mul, Int.mul_neg, Int.mul_assoc, Int.mul_comm, Int.mul_left_comm]; omega)
    rw [Int.mul_add] at a4
    omega
  · have a1 := Int.mul_nonneg hg hv.1
    have a3 : 0 ≤ (-e) * (S - u) := Int.mul_nonneg (by omega) (by omega)
    have a4 := mul_mono' (c := S) h1 (by omega)
    have e1 : (-e) * (S - u) = e * u - S * e := by (simp only [Int.mul_add, Int.add_mul, Int.mul_sub, Int.sub_mul, Int.neg_mul, Int.mul_neg, Int.mul_assoc, Int.mul_comm, Int.mul_left_comm]; omega)
    rw [Int.mul_add] at a4
    omega
section
variable {S p0 q0 x y a b c d p q X Y : Int}
theorem Leh.form (h : Leh S p0 q0 x y a b c d p q X Y) : X = S * p + a * (x - S * p0) + b * (y - S * q0) ∧ Y = S * q + c * (x - S * p0) + d * (y - S * q0) := by
  have h1 := h.hX; have h2 := h.hY; have h3 := h.hp; have h4 := h.hq
  constructor
  · rw [h1, h3]; (simp only [Int.mul_add, Int.add_mul, Int.mul_sub, Int.sub_mul, Int.neg_mul, Int.mul_neg, Int.mul_assoc, Int.mul_comm, Int.mul_left_comm]; omega)
  · rw [h2, h4]; (simp only [Int.mul_add, Int.add_mul, Int.mul_sub, Int.sub_mul, Int.neg_mul, Int.mul_neg, Int.mul_assoc, Int.mul_comm, Int.mul_left_comm]; omega)
theorem Leh.step (h : Leh S p0 q0 x y a b c d p q X Y) (n1 : q + c ≠ 0) (n2 : q + d ≠ 0) {f : Int} (f1 : f = (p + a) / (q + c)) (f2 : f = (p + b) / (q + d))
    (e1 : -2147483647 ≤ a - f * c ∧ a - f * c ≤ 2147483647) (e2 : -2147483647 ≤ b - f * d ∧ b - f * d ≤ 2147483647) : Leh S p0 q0 x y c d (a - f * c) (b - f * d) q (p - f * q) Y (X - f * Y) ∧ X - f * Y < Y ∧ 0 ≤ f := by
  have c1 : 0 < q + c := by have := h.qc; omega
  have c2 : 0 < q + d := by have := h.qd; omega
  obtain ⟨a1, a2⟩ := quo_of (U := p + a) c1
  obtain ⟨b1, b2⟩ := quo_of (U := p + b) c2
  rw [← f1] at a1 a2
  rw [← f2] at b1 b2
  have hf : 0 ≤ f := by rw [f1]; exact Int.ediv_nonneg h.pa h.qc
  have i1 : f * (q + c) = f * q + f * c := Int.mul_add _ _ _
  have i2 : f * (q + d) = f * q + f * d := Int.mul_add _ _ _
  have i3 : (f + 1) * (q + c) = f * q + f * c + q + c := by rw [Int.add_mul, i1]; omega
  have i4 : (f + 1) * (q + d) = f * q + f * d + q + d := by rw [Int.add_mul, i2]; omega
  rw [i1] at a1
  rw [i2] at b1
  rw [i3] at a2
  rw [i4] at b2
  have sg' : (0 ≤ c ∧ d ≤ 0 ∧ a - f * c ≤ 0 ∧ 0 ≤ b - f * d) ∨ (c ≤ 0 ∧ 0 ≤ d ∧ 0 ≤ a - f * c ∧ b - f * d ≤ 0) := by
    rcases h.sg with ⟨s1, s2, s3, s4⟩ | ⟨s1, s2, s3, s4⟩
    · right
      have t1 : 0 ≤ f * (-c) := Int.mul_nonneg hf (by omega)
      have t2 : 0 ≤ f * d := Int.mul_nonneg hf s4
      rw [Int.mul_neg] at t1
      omega
    · left
      have t1 : 0 ≤ f * c := Int.mul_nonneg hf s3
      have t2 : 0 ≤ f * (-d) := Int.mul_nonneg hf (by omega)
      rw [Int.mul_neg] at t2
      omega
  obtain ⟨g1, g2⟩ := h.form
  have hu : 0 ≤ x - S * p0 ∧ x - S * p0 < S := ⟨by have := h.x0; omega, by have := h.x1; omega⟩
  have hv : 0 ≤ y - S * q0 ∧ y - S * q0 < S := ⟨by have := h.y0; omega, by have := h.y1; omega⟩
  have l1 := opp_low (S := S) (R := p - f * q) (e := a - f * c) (g := b - f * d) (t := 0) h.s hu hv (by omega) (by omega) (by omega)
  have l2 := opp_low (S := S) (R := q - (p - f * q)) (e := c - (a - f * c)) (g := d - (b - f * d)) (t := 1) h.s hu hv (by omega) (by omega) (by omega)
  have k1 : X - f * Y = S * (p - f * q) + (a - f * c) * (x - S * p0) + (b - f * d) * (y - S * q0) := by rw [g1, g2]; (simp only [Int.mul_add, Int.add_mul, Int.mul_sub, Int.sub_mul, Int.neg_mul, Int.mul_neg, Int.mul_assoc, Int.mul_comm, Int.mul_left_comm]; omega)
  have k2 : Y - (X - f * Y) = S * (q - (p - f * q)) + (c - (a - f * c)) * (x - S * p0) + (d - (b - f * d)) * (y - S * q0) := by rw [g1, g2]; (simp only [Int.mul_add, Int.add_mul, Int.mul_sub, Int.sub_mul, Int.neg_mul, Int.mul_neg, Int.mul_assoc, Int.mul_comm, Int.mul_left_comm]; omega)
  have hs := h.s
  have n0 : 0 ≤ X - f * Y := by omega
  have n1 : X - f * Y < Y := by omega
  refine ⟨⟨h.s, h.x0, h.x1, h.y0, h.y1, h.hY, ?_, h.hq, ?_, ?_, by omega, by omega, by omega, by omega, ?_, by omega, n0, h.bc, h.bd, e1, e2, by have := h.ly; omega, .inr (by have := h.ly; omega)⟩, n1, hf⟩
  · rw [h.hX, h.hY]; (simp only [Int.mul_add, Int.add_mul, Int.mul_sub, Int.sub_mul, Int.neg_mul, Int.mul_neg, Int.mul_assoc, Int.mul_comm, Int.mul_left_comm]; omega)
  · rw [h.hp, h.hq]; (simp only [Int.mul_add, Int.add_mul, Int.mul_sub, Int.sub_mul, Int.neg_mul, Int.mul_neg, Int.mul_assoc, Int.mul_comm, Int.mul_left_comm]; omega)
  · omega
  · have e : c * (b - f * d) - d * (a - f * c) = -(a * d - b * c) := by (simp only [Int.mul_add, Int.add_mul, Int.mul_sub, Int.sub_mul, Int.neg_mul, Int.mul_neg, Int.mul_assoc, Int.mul_comm, Int.mul_left_comm]; omega)
    rw [e]
    have := h.det; omega
theorem Leh.dvd (h : Leh S p0 q0 x y a b c d p q X Y) {k : Int} (h1 : k ∣ X) (h2 : k ∣ Y) : k ∣ x ∧ k ∣ y := by
  obtain ⟨m, hm⟩ := h1
  obtain ⟨n, hn⟩ := h2
  have e1 : d * X - b * Y = (a * d - b * c) * x := by rw [h.hX, h.hY]; (simp only [Int.mul_add, Int.add_mul, Int.mul_sub, Int.sub_mul, Int.neg_mul, Int.mul_neg, Int.mul_assoc, Int.mul_comm, Int.mul_left_comm] <;> omega)
  have e2 : a * Y - c * X = (a * d - b * c) * y := by rw [h.hX, h.hY]; (simp only [Int.mul_add, Int.add_mul, Int.mul_sub, Int.sub_mul, Int.neg_mul, Int.mul_neg, Int.mul_assoc, Int.mul_comm, Int.mul_left_comm] <;> omega)
  rcases h.det with h3 | h3
  · rw [h3, Int.one_mul] at e1 e2
    exact ⟨⟨d * m - b * n, by rw [← e1, hm, hn]; (simp only [Int.mul_add, Int.add_mul, Int.mul_sub, Int.sub_mul, Int.neg_mul, Int.mul_neg, Int.mul_assoc, Int.mul_comm, Int.mul_left_comm] <;> omega)⟩, ⟨a * n - c * m, by rw [← e2, hm, hn]; (simp only [Int.mul_add, Int.add_mul, Int.mul_sub, Int.sub_mul, Int.neg_mul, Int.mul_neg, Int.mul_assoc, Int.mul_comm, Int.mul_left_comm] <;> omega)⟩⟩
  · rw [h3, Int.neg_mul, Int.one_mul] at e1 e2
    exact ⟨⟨-(d * m - b * n), by rw [hm, hn] at e1; (simp only [Int.mul_add, Int.add_mul, Int.mul_sub, Int.sub_mul, Int.neg_mul, Int.mul_neg, Int.mul_assoc, Int.mul_comm, Int.mul_left_comm] <;> omega)⟩, ⟨-(a * n - c * m), by rw [hm, hn] at e2; (simp only [Int.mul_add, Int.add_mul, Int.mul_sub, Int.sub_mul, Int.neg_mul, Int.mul_neg, Int.mul_assoc, Int.mul_comm, Int.mul_left_comm] <;> omega)⟩⟩
end
theorem dvd_mod {x y k : Int} (h1 : k ∣ y) (h2 : k ∣ x % y) : k ∣ x := by
  have h := Int.mul_ediv_add_emod x y
  rw [← h]
  exact Int.dvd_add (Int.dvd_trans h1 (Int.dvd_mul_right _ _)) h2
end Go.Proofs.Ytmdfgidejdiiiaa
end
