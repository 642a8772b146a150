/- Package nat: lift, lower. Printed by gen_zj.py. -/
import Derived.Test.YtmdfgidejdiiiaalZhtoZi
import Derived.Laws.BitsAllLaws
set_option linter.unusedVariables false
set_option linter.unusedSimpArgs false
namespace Go.Proofs.Ytmdfgidejdiiiaa
open Go.RowKit
theorem pow2_nat (i : Nat) : (2 : Int) ^ i = ((2 ^ i : Nat) : Int) := by simp
theorem pow2_pos (i : Nat) : 0 < (2 : Int) ^ i := by rw [pow2_nat]; have := Nat.two_pow_pos i; omega
theorem or_add32 {a b : Int} {i : Nat} (ha : 0 ≤ a ∧ a < 4294967296) (h : a % 2 ^ i = 0) (hb : 0 ≤ b ∧ b < 2 ^ i) (hb2 : b < 4294967296) : bits BinOp.or IntKind.u32 a b = a + b := by
  rw [u32_or a b ha.1 ha.2 hb.1 hb2]
  obtain ⟨a, rfl⟩ := Int.eq_ofNat_of_zero_le ha.1
  obtain ⟨b, rfl⟩ := Int.eq_ofNat_of_zero_le hb.1
  rw [pow2_nat] at h hb
  rw [Int.toNat_natCast, Int.toNat_natCast, nat_join i a b (by exact_mod_cast h) (by exact_mod_cast hb.2)]
  rfl
theorem or_add64 {a b : Int} {i : Nat} (ha : 0 ≤ a ∧ a < 18446744073709551616) (h : a % 2 ^ i = 0) (hb : 0 ≤ b ∧ b < 2 ^ i) (hb2 : b < 18446744073709551616) : bits BinOp.or IntKind.u64 a b = a + b := by
  rw [u64_or a b ha.1 ha.2 hb.1 hb2]
  obtain ⟨a, rfl⟩ := Int.eq_ofNat_of_zero_le ha.1
  obtain ⟨b, rfl⟩ := Int.eq_ofNat_of_zero_le hb.1
  rw [pow2_nat] at h hb
  rw [Int.toNat_natCast, Int.toNat_natCast, nat_join i a b (by exact_mod_cast h) (by exact_mod_cast hb.2)]
  rfl
theorem pow_split {s : Nat} (hs : s < 32) : (2 : Int) ^ s * 2 ^ (32 - s) = 4294967296 := by
  rw [← Int.pow_add, show s + (32 - s) = 32 by omega]; rfl
theorem pow_up {s : Nat} (hs : s < 32) : (2 : Int) ^ s ≤ 2147483648 := by
  have h1 := pow_split (s := s) hs
  have h2 : (2 : Int) ≤ 2 ^ (32 - s) := by
    obtain ⟨k, hk⟩ : ∃ k, 32 - s = k + 1 := ⟨31 - s, by omega⟩
    rw [hk, Int.pow_succ]
    have := pow2_pos k
    omega
  have h3 := mul_mono' h2 (Int.le_of_lt (pow2_pos s))
  omega
theorem lift_step {s : Nat} {x cr : Int} (hs : s < 32) (hx : 0 ≤ x ∧ x < 4294967296) (hc : 0 ≤ cr ∧ cr < 2 ^ s) :
    (bits BinOp.or IntKind.u32 (x * 2 ^ s % 4294967296) cr = x * 2 ^ s % 4294967296 + cr ∧ 0 ≤ x * 2 ^ s % 4294967296 + cr ∧ x * 2 ^ s % 4294967296 + cr < 4294967296) ∧
    (IntKind.u64.wrap (x * 2 ^ s) / 4294967296 % 4294967296 = x * 2 ^ s / 4294967296 ∧ 0 ≤ x * 2 ^ s / 4294967296 ∧ x * 2 ^ s / 4294967296 < 2 ^ s) := by
  obtain ⟨R, hR⟩ : ∃ R : Int, (2 : Int) ^ (32 - s) = R := ⟨_, rfl⟩
  have h1 := pow_split hs
  have h2 := pow2_pos s
  have h3 := pow_up hs
  have h4 : 0 < R := by rw [← hR]; exact pow2_pos _
  rw [hR] at h1
  have e0 : bits BinOp.or IntKind.u32 (x * 2 ^ s % 4294967296) cr = x * 2 ^ s % 4294967296 + cr := by
    refine or_add32 (i := s) ⟨by omega, by omega⟩ ?_ hc (by omega)
    rw [← h1, Int.emod_emod_of_dvd _ (Int.dvd_mul_right _ _), Int.mul_emod_left]
  generalize (2 : Int) ^ s = P at *
  have h5 := quo_of (U := x) h4
  have h6 := Int.mul_ediv_add_emod x R
  have h7 := Int.emod_nonneg x (by omega : R ≠ 0)
  have h8 := Int.emod_lt_of_pos x h4
  have e1 : x * P = P * (x % R) + 4294967296 * (x / R) := by
    rw [← h1]
    have : P * (x % R) + P * R * (x / R) = P * (R * (x / R) + x % R) := by rw [Int.mul_add, Int.mul_assoc]; omega
    rw [this, h6, Int.mul_comm]
  have h9 : 0 ≤ P * (x % R) := Int.mul_nonneg (by omega) h7
  have h10 := mul_mono' (a := x % R) (b := R - 1) (c := P) (by omega) (by omega)
  rw [Int.mul_sub, Int.mul_one, h1] at h10
  have h11 : 0 ≤ x / R := Int.ediv_nonneg hx.1 (by omega)
  have h12 : x / R < P := by
    have : x / R * R < P * R := by omega
    exact Int.lt_of_mul_lt_mul_right this (by omega)
  have e2 : x * P % 4294967296 = P * (x % R) := by omega
  have e3 : x * P / 4294967296 = x / R := by omega
  rw [e0, wrapU, e2, e3]
  refine ⟨⟨rfl, by omega, by omega⟩, by omega, h11, h12⟩
theorem lift_val {X T : List Int} {k : Nat} {x c d c' P : Int} (hk : T.length = k) (hX : X[k]? = some x) (hT : nv T + bp k * c = P * nv (X.take k)) (hs : d + 4294967296 * c' = x * P + c) : nv (T ++ [d]) + bp (k + 1) * c' = P * nv (X.take (k + 1)) := by
  subst hk
  rw [nv_app, nv_one, nv_take hX, bp_succ, Int.mul_add]
  have e : 4294967296 * bp T.length * c' = bp T.length * (4294967296 * c') := by rw [Int.mul_comm 4294967296, Int.mul_assoc]
  have h1 : bp T.length * (d + 4294967296 * c') = bp T.length * (x * P + c) := by rw [hs]
  rw [Int.mul_add, Int.mul_add] at h1
  have e2 : P * (bp T.length * x) = bp T.length * (x * P) := by rw [Int.mul_left_comm, Int.mul_comm P]
  rw [e, e2]
  omega
def RetOwn (w : World) (x : Int) (N : Nat) (e : Ending) (w' : World) : Prop := ∃ g L, e = .returned (.slice (some ⟨g, 0, none⟩) N N) ∧ OwG w.heap.size w' (.slice (some ⟨g, 0, none⟩) N N) L ∧ nv L = x ∧ Below w.heap.size w w'
set_option maxRecDepth 100000 in
set_option maxHeartbeats 1000000 in
theorem nt_lift (A : Option Addr) (p c s N : Nat) (X : List Int) (w : World) (hX : DigA w A X) (hp : X.length = p) (hc : p ≤ c) (hs : s < 32) (hN : N = p ∨ N = p + 1) (h9 : p ≤ 10000000) (hfit : 2 ^ s * nv X < bp N) :
    Calls Try.prog 138 #[.slice A p c, .int .u64 s, .int .i64 N] w (RetOwn w (2 ^ s * nv X) N) := by
  have HX := Lib.hid hX
  have HL := Lib.hid hp
  obtain ⟨V, hV⟩ : ∃ V, 2 ^ s * nv X = V := ⟨_, rfl⟩
  rw [hV] at hfit ⊢
  have HV := Lib.hid hV
  have HFIT := Lib.hid hfit
  clear hX hp hV hfit
  go_enter Try.func138, Try.ntmps138
  go_upto_region 2 with ((with_reducible show wpList _ _ _ (Oper.mk _ (.makeSlice _ _ _) _ _ _ _ :: _) _ _); refine mk_dig rfl _ _ rfl w.heap.size N rfl rfl rfl (by omega) (Nat.le_refl _) ?_; intro w3 ho3 hb3; have HO3 := Lib.hid ho3; have HB3 := Lib.hid hb3; clear ho3 hb3)
  go_upto_region 4 with fail
  obtain ⟨g, hg⟩ : ∃ g, w.heap.size = g := ⟨_, rfl⟩
  have HG : Hid (w.heap.size ≤ g) := Lib.hid (Nat.le_of_eq hg)
  have HO3' : Hid (OwG w.heap.size w3 (.slice (some ⟨g, 0, none⟩) N N) (List.replicate N 0)) := Lib.hid (by rw [← hg]; exact HO3.out)
  rw [hg]
  clear hg HO3
  go_loopw [8, 15] (fun cy i wr => ∃ (k : Nat) (T : List Int) (cr : Int), k ≤ p ∧ i = .int .i64 k ∧ cy = .int .u32 cr ∧ Hid (0 ≤ cr ∧ cr < 2 ^ s) ∧ Hid (T.length = k) ∧ Hid (nv T + bp k * cr = 2 ^ s * nv (X.take k)) ∧ Hid (OwG w.heap.size wr (.slice (some ⟨g, 0, none⟩) N N) (T ++ List.replicate (N - k) 0)) ∧ Hid (Below w.heap.size w wr)) (fun _ i _ => p - (intOf i).toNat)
  case atStart => exact ⟨0, [], 0, Nat.zero_le _, rfl, rfl, Lib.hid ⟨Int.le_refl _, pow2_pos s⟩, Lib.hid rfl, Lib.hid (by simp [nv]), HO3', HB3⟩
  case round =>
    obtain ⟨k, T, cr, hk, rfl, rfl, HCR, HT, HS, HO, HBW⟩ := hrel
    by_cases hlt : k < p
    · obtain ⟨ad, x, rfl, _, hx, hcx, i1, i2⟩ := (HX.out.grow HBW.out).at_ (k := k) (by rw [HL.out]; exact hlt)
      have x0 : (0 : Int) ≤ (k : Int) := by omega
      have x1 : (k : Int) < (p : Int) := by omega
      have x2 : (k : Int) < (N : Int) := by omega
      obtain ⟨⟨l1, l2, l3⟩, l4, l5, l6⟩ := lift_step hs ⟨i1, i2⟩ HCR.out
      obtain ⟨mz, hmz⟩ : ∃ m, N - k = m + 1 := ⟨N - k - 1, by omega⟩
      have ho := HO.out
      rw [hmz] at ho
      have zc := ho.cell (k := k) (y := 0) (by rw [List.getElem?_append_right (by rw [HT.out]; exact Nat.le_refl _), HT.out, Nat.sub_self]; rfl)
      have zf := ho.free k
      have hst := lift_val (d := x * 2 ^ s % 4294967296 + cr) (c' := x * 2 ^ s / 4294967296) HT.out hx HS.out (by have := Int.mul_ediv_add_emod (x * 2 ^ s) 4294967296; omega)
      have hp31 := pow_up hs
      obtain ⟨d, hd⟩ : ∃ d, x * 2 ^ s % 4294967296 + cr = d := ⟨_, rfl⟩
      obtain ⟨c', hc'⟩ : ∃ d, x * 2 ^ s / 4294967296 = d := ⟨_, rfl⟩
      rw [hd] at l1 l2 l3 hst
      rw [hc'] at l4 l5 l6 hst
      have hse := ho.set k (y := d) ⟨l2, l3⟩
      rw [set_zeros T mz _ HT.out] at hse
      have HSE := Lib.hid hse
      have HBS := Lib.hid (HBW.out.setCell (p := ⟨g, k, none⟩) HG.out (.int .u32 d))
      have HST := Lib.hid hst
      have HC2 := Lib.hid (And.intro l5 l6)
      have HMZ : Hid (N - (k + 1) = mz) := Lib.hid (by omega)
      clear hx hst hse ho hmz hd hc' l5 l6 hp31
      go_upto_region 6 with fail
      go_wp2_with fail
      rw [l4]
      go_roundw
      case rel => exact ⟨k + 1, T ++ [d], c', by omega, by go_num, rfl, HC2, Lib.hid (by rw [List.length_append, HT.out]; rfl), HST, Lib.hid (by rw [HMZ.out]; exact HSE.out), HBS⟩
      case measure => simp [intOf]; omega
    · obtain rfl : k = p := by omega
      have hV : nv T + bp k * cr = V := by
        have h1 := HS.out
        rw [take_len (by rw [HL.out]; exact Nat.le_refl _), HV.out] at h1
        exact h1
      have hcr := HCR.out
      have hp31 := pow_up hs
      have ho := HO.out
      by_cases hNp : N = k
      · subst hNp
        rw [Nat.sub_self, List.replicate_zero, List.append_nil] at ho
        have hF : nv T = V := by
          have h2 := nv_low (OwG.dig ho)
          have h4 := bp_pos N
          rcases (show cr = 0 ∨ 1 ≤ cr by omega) with hc0 | hc0
          · rw [hc0, Int.mul_zero] at hV; omega
          · have h5 := mul_mono' (c := bp N) hc0 (by omega)
            have := HFIT.out; omega
        have HF := Lib.hid hF
        have HOE := Lib.hid ho
        clear hF hV ho
        go_wp2_with fail
        go_ret
        exact ⟨g, T, rfl, HOE.out, HF.out, HBW.out⟩
      · obtain rfl : N = k + 1 := by omega
        rw [show k + 1 - k = 0 + 1 by omega] at ho
        have zc := ho.cell (k := k) (y := 0) (by rw [List.getElem?_append_right (by rw [HT.out]; exact Nat.le_refl _), HT.out, Nat.sub_self]; rfl)
        have zf := ho.free k
        have hse := ho.set k (y := cr) ⟨by omega, by omega⟩
        rw [set_zeros T 0 _ HT.out, List.replicate_zero, List.append_nil] at hse
        have HSE := Lib.hid hse
        have HBS := Lib.hid (HBW.out.setCell (p := ⟨g, k, none⟩) HG.out (.int .u32 cr))
        have HF : Hid (nv (T ++ [cr]) = V) := Lib.hid (by rw [nv_app, nv_one, HT.out]; exact hV)
        have x0 : (0 : Int) ≤ (k : Int) := by omega
        have x2 : (k : Int) < (k : Int) + 1 := by omega
        clear ho hse hV
        go_wp2_with fail
        go_ret
        exact ⟨g, T ++ [cr], rfl, HSE.out, HF.out, HBS.out⟩
theorem or_add32' {a b : Int} {i : Nat} (hb : 0 ≤ b ∧ b < 4294967296) (h : b % 2 ^ i = 0) (ha : 0 ≤ a ∧ a < 2 ^ i) (ha2 : a < 4294967296) : bits BinOp.or IntKind.u32 a b = a + b := by
  rw [u32_or a b ha.1 ha2 hb.1 hb.2, Nat.or_comm, ← u32_or b a hb.1 hb.2 ha.1 ha2, or_add32 hb h ha ha2, Int.add_comm]
theorem lower_step {s r : Nat} {x m : Int} (hs : s < 32) (hr : s + r = 32) (hx : 0 ≤ x ∧ x < 4294967296) (hm : 0 ≤ m ∧ m < 2 ^ s) :
    (bits BinOp.or IntKind.u32 (x / 2 ^ s) (m * 2 ^ r) = x / 2 ^ s + m * 2 ^ r ∧ 0 ≤ x / 2 ^ s + m * 2 ^ r ∧ x / 2 ^ s + m * 2 ^ r < 4294967296) ∧ 2 ^ s * (x / 2 ^ s + m * 2 ^ r) + x % 2 ^ s = x + 4294967296 * m ∧
    (IntKind.u64.wrap (x * 2 ^ r) % 4294967296 = x % 2 ^ s * 2 ^ r ∧ 0 ≤ x % 2 ^ s ∧ x % 2 ^ s < 2 ^ s) ∧ 0 ≤ x % 2 ^ s * 2 ^ r ∧ x % 2 ^ s * 2 ^ r < 4294967296 := by
  obtain rfl : r = 32 - s := by omega
  obtain ⟨R, hR⟩ : ∃ R : Int, (2 : Int) ^ (32 - s) = R := ⟨_, rfl⟩
  have h1 := pow_split hs
  have h2 := pow2_pos s
  have h4 : 0 < R := by rw [← hR]; exact pow2_pos _
  have h0 : ∀ y : Int, y < 2 ^ s → y * R ≤ 4294967296 - R := fun y hy => by
    rw [hR] at h1
    have := mul_mono (a := y) (b := 2 ^ s - 1) (c := R) (by omega) (by omega)
    rw [Int.sub_mul, Int.one_mul, h1] at this
    omega
  have h5 := quo_of (U := x) h2
  have h6 := Int.mul_ediv_add_emod x (2 ^ s)
  have h7 := Int.emod_nonneg x (by omega : (2 : Int) ^ s ≠ 0)
  have h8 := Int.emod_lt_of_pos x h2
  have h11 : 0 ≤ x / 2 ^ s := Int.ediv_nonneg hx.1 (by omega)
  have h12 : x / 2 ^ s < R := by
    rw [hR] at h1
    have : x / 2 ^ s * 2 ^ s < R * 2 ^ s := by rw [Int.mul_comm R]; omega
    exact Int.lt_of_mul_lt_mul_right this (by omega)
  have m1 := h0 m hm.2
  have m2 := Int.mul_nonneg hm.1 (Int.le_of_lt h4)
  have m3 := h0 _ h8
  have m4 := Int.mul_nonneg h7 (Int.le_of_lt h4)
  have hRB : R ≤ 4294967296 := by have := h0 0 h2; omega
  have e0 : bits BinOp.or IntKind.u32 (x / 2 ^ s) (m * 2 ^ (32 - s)) = x / 2 ^ s + m * 2 ^ (32 - s) := by
    refine or_add32' (i := 32 - s) (by rw [hR]; omega) (Int.mul_emod_left _ _) (by rw [hR]; omega) ?_
    omega
  rw [e0]
  rw [hR] at h1 ⊢
  have e1 : x * R = x % 2 ^ s * R + 4294967296 * (x / 2 ^ s) := by
    have : x % 2 ^ s * R + 4294967296 * (x / 2 ^ s) = (2 ^ s * (x / 2 ^ s) + x % 2 ^ s) * R := by
      rw [Int.add_mul, ← h1, Int.mul_assoc (2 ^ s) R, Int.mul_comm R (x / 2 ^ s), ← Int.mul_assoc]; omega
    rw [this, h6]
  have e2 : IntKind.u64.wrap (x * R) % 4294967296 = x % 2 ^ s * R := by rw [wrapU]; omega
  have e3 : 2 ^ s * (x / 2 ^ s + m * R) = 2 ^ s * (x / 2 ^ s) + 4294967296 * m := by
    rw [Int.mul_add, ← Int.mul_assoc, Int.mul_comm (2 ^ s) m, Int.mul_assoc m, h1, Int.mul_comm m]
  refine ⟨⟨rfl, by omega, by omega⟩, by rw [e3]; omega, ⟨e2, h7, h8⟩, m4, by omega⟩
theorem set_front (D : List Int) (k : Nat) (d : Int) : (List.replicate (k + 1) (0 : Int) ++ D).set k d = List.replicate k 0 ++ (d :: D) := by
  rw [List.replicate_succ', List.append_assoc]
  show (List.replicate k 0 ++ (0 :: D)).set k d = _
  rw [List.set_append_right _ _ (by simp), List.length_replicate, Nat.sub_self, List.set_cons_zero]
set_option maxRecDepth 100000 in
set_option maxHeartbeats 1000000 in
theorem nt_lower (A : Option Addr) (p c s : Nat) (X : List Int) (w : World) (hX : DigA w A X) (hp : X.length = p) (hc : p ≤ c) (hs : s < 32) (h9 : p ≤ 10000000) :
    Calls Try.prog 140 #[.slice A p c, .int .u64 s] w (RetOwn w (nv X / 2 ^ s) p) := by
  have HX := Lib.hid hX
  have HL := Lib.hid hp
  obtain ⟨V, hV⟩ : ∃ V, nv X / 2 ^ s = V := ⟨_, rfl⟩
  rw [hV]
  have HV := Lib.hid hV
  obtain ⟨r, hr⟩ : ∃ r, s + r = 32 := ⟨32 - s, by omega⟩
  have q1 : IntKind.u64.wrap (32 - (s : Int)) = (r : Int) := by rw [wrapU]; omega
  have q2 : r ≤ 32 := by omega
  have q3 : IntKind.i64.wrap ((p : Int) - 1) = (p : Int) - 1 := IntWalk.i64_in _ (by omega)
  have HR := Lib.hid hr
  clear hX hp hV hr
  go_enter Try.func140, Try.ntmps140
  go_upto_region 2 with ((with_reducible show wpList _ _ _ (Oper.mk _ (.makeSlice _ _ _) _ _ _ _ :: _) _ _); refine mk_dig rfl _ _ rfl w.heap.size p rfl rfl rfl (by omega) (Nat.le_refl _) ?_; intro w3 ho3 hb3; have HO3 := Lib.hid ho3; have HB3 := Lib.hid hb3; clear ho3 hb3)
  go_upto_region 4 with fail
  obtain ⟨g, hg⟩ : ∃ g, w.heap.size = g := ⟨_, rfl⟩
  have HG : Hid (w.heap.size ≤ g) := Lib.hid (Nat.le_of_eq hg)
  have HO3' : Hid (OwG w.heap.size w3 (.slice (some ⟨g, 0, none⟩) p p) (List.replicate p 0)) := Lib.hid (by rw [← hg]; exact HO3.out)
  rw [hg]
  clear hg HO3
  go_loopw [6, 7] (fun hi i wr => ∃ (k : Nat) (t m h : Int) (D : List Int), k ≤ p ∧ i = .int .i64 t ∧ hi = .int .u32 h ∧ Hid (t = (k : Int) - 1) ∧ Hid (h = m * 2 ^ r) ∧ Hid (0 ≤ m ∧ m < 2 ^ s) ∧ Hid (2 ^ s * nv D + m = nv (X.drop k)) ∧ Hid (OwG w.heap.size wr (.slice (some ⟨g, 0, none⟩) p p) (List.replicate k 0 ++ D)) ∧ Hid (Below w.heap.size w wr)) (fun _ i _ => (intOf i + 1).toNat)
  case atStart => exact ⟨p, (p : Int) - 1, 0, 0, [], Nat.le_refl _, rfl, rfl, Lib.hid rfl, Lib.hid (by omega), Lib.hid ⟨Int.le_refl _, pow2_pos s⟩, Lib.hid (by rw [List.drop_of_length_le (by rw [HL.out]; exact Nat.le_refl _)]; simp [nv]), Lib.hid (by rw [List.append_nil]; exact HO3'.out), HB3⟩
  case round =>
    obtain ⟨k, t, m, h, D, hk, rfl, rfl, HT, HH, HM, HS, HO, HBW⟩ := hrel
    by_cases hk0 : k = 0
    · subst hk0
      obtain rfl : t = -1 := by have := HT.out; omega
      have HF : Hid (nv D = V) := Lib.hid (by
        have h1 := HS.out
        rw [List.drop_zero] at h1
        have h2 := pow2_pos s
        rw [← HV.out, ← h1, Int.mul_add_ediv_left _ _ (by omega), Int.ediv_eq_zero_of_lt HM.out.1 HM.out.2]; omega)
      have ho := HO.out
      rw [List.replicate_zero, List.nil_append] at ho
      have HOE := Lib.hid ho
      clear ho
      go_wp2_with fail
      go_ret
      exact ⟨g, D, rfl, HOE.out, HF.out, HBW.out⟩
    · obtain ⟨j, rfl⟩ : ∃ j, k = j + 1 := ⟨k - 1, by omega⟩
      obtain rfl : t = (j : Int) := by have := HT.out; omega
      obtain ⟨ad, x, rfl, _, hx, hcx, i1, i2⟩ := (HX.out.grow HBW.out).at_ (k := j) (by rw [HL.out]; omega)
      have x0 : (0 : Int) ≤ (j : Int) := by omega
      have x1 : (j : Int) < (p : Int) := by omega
      have x3 : IntKind.i64.wrap ((j : Int) - 1) = (j : Int) - 1 := IntWalk.i64_in _ (by omega)
      obtain ⟨⟨l1, l2, l3⟩, l0, ⟨l4, l5, l6⟩, l7, l8⟩ := lower_step hs HR.out ⟨i1, i2⟩ HM.out
      have ho := HO.out
      have zc := ho.cell (k := j) (y := 0) (by rw [List.getElem?_append_left (by simp), List.getElem?_replicate, if_pos (by omega)])
      have zf := ho.free j
      have hst : 2 ^ s * nv ((x / 2 ^ s + m * 2 ^ r) :: D) + x % 2 ^ s = nv (X.drop j) := by
        rw [nv_drop hx, ← HS.out]
        show 2 ^ s * (x / 2 ^ s + m * 2 ^ r + 4294967296 * nv D) + x % 2 ^ s = _
        rw [Int.mul_add, Int.mul_left_comm, Int.mul_add 4294967296]
        omega
      rw [← HH.out] at l1 l2 l3 hst
      obtain ⟨d, hd⟩ : ∃ d, x / 2 ^ s + h = d := ⟨_, rfl⟩
      rw [hd] at l1 l2 l3 hst
      have hse := ho.set j (y := d) ⟨l2, l3⟩
      rw [set_front] at hse
      have HSE := Lib.hid hse
      have HBS := Lib.hid (HBW.out.setCell (p := ⟨g, j, none⟩) HG.out (.int .u32 d))
      have HST := Lib.hid hst
      have HM2 := Lib.hid (And.intro l5 l6)
      have HK := Lib.hid hk
      have hcx2 : (wr.setCell ⟨g, j, none⟩ (.int .u32 d)).cell? (ad.add j) = some (.int .u32 x) := by
        obtain ⟨ad', x', e1, _, hx', hcx', _, _⟩ := (HX.out.grow HBS.out).at_ (k := j) (by rw [HL.out]; omega)
        injection e1 with e1
        rw [hx] at hx'
        injection hx' with hx'
        rw [e1, hx']; exact hcx'
      clear hx hst hse ho hd l5 l6 l0 HT hk hk0 l2 l3
      go_upto_region 7 with fail
      go_wp2_with fail
      rw [l4]
      go_roundw
      case rel => exact ⟨j, (j : Int) - 1, x % 2 ^ s, x % 2 ^ s * 2 ^ r, d :: D, by have := HK.out; omega, rfl, rfl, Lib.hid rfl, Lib.hid rfl, HM2, HST, HSE, HBS⟩
      case measure => simp [intOf]
end Go.Proofs.Ytmdfgidejdiiiaa
