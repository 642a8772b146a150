/- Several texts in one: Zr Zs V3 V4 V5 La B G4 Vb U. -/
import Derived.Test.YtmdfgidejdiiiaanZctoZq
import Derived.Test.YtmdfgidejdiiiaanFztoZn
import Derived.Test.YtmdfgidejdiiiaanPltoZa
import Derived.Maps.AppendAt
import Derived.Defers
import Derived.Deep.RegionHeld3
import Derived.Handy
import Derived.Deep.DeepCutAuto
set_option linter.unusedVariables false
set_option linter.unusedSimpArgs false
section
namespace Go.Proofs.Ytmdfgidejdiiiaa
open Go.RowKit
def RetShort (base : Nat) (X Y : Int) (K : Nat) (w : World) (e : Ending) (w' : World) : Prop := ∃ v1 l1 v2 l2, e = .returned (.tuple #[v1, v2]) ∧ (OwG base w' v1 l1 ∧ Nrm l1 ∧ l1.length ≤ K) ∧ (OwG base w' v2 l2 ∧ Nrm l2 ∧ l2.length ≤ K) ∧ (nv l2 ≤ nv l1 ∧ nv l2 < Y ∧ 0 < nv l1) ∧ (∀ k : Int, k ∣ nv l1 → k ∣ nv l2 → k ∣ X ∧ k ∣ Y) ∧ Below w.heap.size w w'
set_option maxRecDepth 100000 in
set_option maxHeartbeats 4000000 in
theorem nt_shorten (base : Nat) (A B : Option Addr) (p m c d : Nat) (X Y : List Int) (w : World) (hb : base ≤ w.heap.size) (hX : OwG base w (.slice A p c) X) (hY : OwG base w (.slice B m d) Y) (h9 : p ≤ 10000000) (nX : Nrm X) (nY : Nrm Y) (hle : nv Y ≤ nv X) (h3 : 2 < m) :
    Calls Try.prog 129 #[.slice A p c, .slice B m d] w (RetShort base (nv X) (nv Y) p w) := by
  obtain ⟨hp, hc⟩ := hX.len
  obtain ⟨hm, hd⟩ := hY.len
  have hmp : m ≤ p := by
    rcases Nat.lt_or_ge p m with h | h
    · have := nrm_lt hX.dig hY.dig nY (by omega); omega
    · exact h
  obtain ⟨p1, hp1⟩ : ∃ k, p = k + 1 := ⟨p - 1, by omega⟩
  have hne : Y ≠ [] := fun e => by rw [e] at hm; simp at hm; omega
  have hy0 : 0 < nv Y := by
    have h1 := nrm_le hY.dig nY hne
    have := bp_pos (Y.length - 1)
    omega
  obtain ⟨ad, x1, rfl, hbx, hx1, hcx, x1a, x1b⟩ := hX.digA.at_ (k := p1) (by omega)
  have hx0 : 0 < x1 := by have := nX p1 x1 (by omega) hx1; omega
  obtain ⟨s, hs, hs32, hsl, hsh⟩ := lz_facts hx0 x1b
  have CZ : Hid (∀ w1, Calls Try.prog 137 #[.int .u32 x1] w1 fun e w' => e = .returned (.int .i64 (s : Int)) ∧ w1 = w') := Lib.hid fun w1 => (hs ▸ Try.bits_LeadingZeros32 x1 w1 x1a (by omega)).mono fun e w' h => ⟨h.1, h.2.symm⟩
  have hpu := pow_up hs32
  have hps := pow2_pos s
  have gx : X.getD (p - 1) 0 = x1 := by rw [List.getD_eq_getElem?_getD, show p - 1 = p1 by omega, hx1]; rfl
  have gy : 2 ^ s * (Y.getD (p - 1) 0 + 1) ≤ 4294967296 := by
    rcases Nat.lt_or_ge (p - 1) m with h | h
    · obtain ⟨_, y1, _, _, hy1, _, y1a, y1b⟩ := hY.digA.at_ (k := p - 1) (by omega)
      have e : Y.getD (p - 1) 0 = y1 := by rw [List.getD_eq_getElem?_getD, hy1]; rfl
      rw [e]
      have h1 := dig_le hY.dig hy1
      have h2 := nv_take hx1
      rw [take_len (by omega)] at h2
      have h4 := nv_lt (hX.dig.take p1)
      rw [List.length_take, Nat.min_eq_left (by omega)] at h4
      rw [show p - 1 = p1 by omega] at h1
      have h5 := bp_pos p1
      have h6 : bp p1 * y1 < bp p1 * (x1 + 1) := by rw [Int.mul_add, Int.mul_one]; omega
      have h7 := Int.lt_of_mul_lt_mul_left h6 (by omega)
      have h8 := mul_mono' (a := y1 + 1) (b := x1 + 1) (c := 2 ^ s) (by omega) (by omega)
      omega
    · have e : Y.getD (p - 1) 0 = 0 := by rw [List.getD_eq_getElem?_getD, List.getElem?_eq_none (by omega)]; rfl
      rw [e]; omega
  obtain ⟨S, hS⟩ : ∃ t, bp (p - 3) * (2 : Int) ^ (34 - s) = t := ⟨_, rfl⟩
  have hS0 : 0 < S := by rw [← hS]; exact Int.mul_pos (bp_pos _) (pow2_pos _)
  have CLX : Hid (∀ w1, Below w.heap.size w w1 → Calls Try.prog 142 #[.slice (some ad) p c, .int .i64 p, .int .u64 s] w1 (RetLead w1 S (nv X))) := Lib.hid fun w1 h => by
    have := nt_leading (some ad) p c p s X w1 (hX.digA.grow h) hp (Nat.le_refl _) (by omega) h9 hs32 (by rw [gx]; exact hsh)
    rw [hS] at this; exact this
  have CLY : Hid (∀ w1, Below w.heap.size w w1 → Calls Try.prog 142 #[.slice B m d, .int .i64 p, .int .u64 s] w1 (RetLead w1 S (nv Y))) := Lib.hid fun w1 h => by
    have := nt_leading B m d p s Y w1 (hY.digA.grow h) hm hmp (by omega) h9 hs32 gy
    rw [hS] at this; exact this
  have CCF : Hid (∀ p0 q0 w1, (0 ≤ p0 ∧ p0 < 4611686018427387904) → (0 ≤ q0 ∧ q0 < 4611686018427387904) → (S * p0 ≤ nv X ∧ nv X < S * p0 + S) → (S * q0 ≤ nv Y ∧ nv Y < S * q0 + S) → Calls Try.prog 141 #[.int .i64 p0, .int .i64 q0] w1 (RetCof S p0 q0 (nv X) (nv Y) w1)) := Lib.hid fun p0 q0 w1 h1 h2 h4 h5 => nt_cofactors S p0 q0 (nv X) (nv Y) w1 hS0 h4.1 h4.2 h5.1 h5.2 h1.1 h2.1 h1.2 h2.2 hle (Int.le_of_lt hy0)
  have CDV : Hid (∀ w1, Below w.heap.size w w1 → Calls Try.prog 128 #[.slice (some ad) p c, .slice B m d] w1 (RetQR w1 (nv X / nv Y) (nv X % nv Y) p m)) := Lib.hid fun w1 h => nt_divide (some ad) B p m c d X Y w1 (hX.digA.grow h) (hY.digA.grow h) hp hm hc hd h9 (by omega) nX nY hne
  have CCB : Hid (∀ f g V w1, Below w.heap.size w w1 → (-2147483647 ≤ f ∧ f ≤ 2147483647) → (-2147483647 ≤ g ∧ g ≤ 2147483647) → ((0 ≤ f ∧ g ≤ 0) ∨ (f ≤ 0 ∧ 0 ≤ g)) → f * nv X + g * nv Y = V → 0 ≤ V → V ≤ nv X → Calls Try.prog 143 #[.slice (some ad) p c, .slice B m d, .int .i64 f, .int .i64 g] w1 (RetN w1 V p)) := Lib.hid fun f g V w1 h h1 h2 h4 h5 h6 h7 => nt_combine (some ad) B p m c d X Y f g V w1 (hX.digA.grow h) (hY.digA.grow h) hp hm hc hd h9 hmp h1 h2 h4 h5 h6 (by have := nv_lt hX.dig; rw [hp] at this; omega)
  have w1' : IntKind.i64.wrap ((p : Int) - 1) = (p1 : Int) := (IntWalk.i64_in _ (by omega)).trans (by omega)
  have x0 : (p1 : Int) < (p : Int) := by omega
  have HY := Lib.hid (And.intro hY (And.intro nY (And.intro hm hmp)))
  have HV := Lib.hid (And.intro hy0 hle)
  have HBS := Lib.hid hb
  clear hX hY hp hm hp1 hx1 hx0 hs hsl hsh hpu hps gx gy hS hS0 hne hy0 hle nX nY hb x1a x1b hbx
  go_enter Try.func129, Try.ntmps129
  go_upto_region 3 with (go_at_call 137; (with_reducible refine (CZ.out _).mono ?_); rintro e2 w2 ⟨rfl, rfl⟩)
  have HB0 : Hid (Below w.heap.size w w) := Lib.hid (Below.refl _ _)
  go_upto_region 4 with (first
    | (go_at_call 142; first
        | ((with_reducible refine (CLX.out _ HB0.out).mono ?_); rintro e4 w4 ⟨p0, rfl, p0b, p0s, hb4⟩; have HB4 := Lib.hid hb4; have HP0 := Lib.hid (And.intro p0b p0s); clear hb4 p0b p0s)
        | ((with_reducible refine (CLY.out _ HB4.out).mono ?_); rintro e5 w5 ⟨q0, rfl, q0b, q0s, hb5⟩; have HB5 := Lib.hid (below_then HB4.out hb5); have HQ0 := Lib.hid (And.intro q0b q0s); clear hb5 q0b q0s))
    | (go_at_call 141; (with_reducible refine (CCF.out _ _ _ HP0.out.1 HQ0.out.1 HP0.out.2 HQ0.out.2).mono ?_); rintro e6 w6 ⟨fa, fb, fc, fd, pp, qq, XX, YY, rfl, hL, hb6⟩; have HB6 := Lib.hid (below_then HB5.out hb6); have HL := Lib.hid hL; clear hb6 hL))
  have HD := Lib.hid (fun (k : Int) => HL.out.1.dvd (k := k))
  have hsz := HB6.out.size
  by_cases hb0 : fb = 0
  · subst hb0
    go_wp2_with (go_at_call 128; (with_reducible refine (CDV.out _ HB6.out).mono ?_); rintro e7 w7 ⟨v1, l1, v2, l2, rfl, ⟨-, -, -, -⟩, ⟨o2, n2, m2, k2⟩, hb7⟩; have HB7 := Lib.hid hb7; have H2 := Lib.hid (And.intro o2 (And.intro n2 (And.intro m2 k2))); clear hb7 o2 n2 m2 k2)
    go_ret2
    obtain ⟨o2, n2, m2, k2⟩ := H2.out
    obtain ⟨y1, y2, y3, y4⟩ := HY.out
    have v1 := HV.out.1
    have h1 := Int.emod_lt_of_pos (nv X) v1
    have hbs := HBS.out
    refine ⟨_, Y, _, l2, rfl, ⟨(y1.grow HB6.out).grow HB7.out, y2, by omega⟩, ⟨o2.base (by omega), m2, by omega⟩, ⟨by rw [n2]; omega, by rw [n2]; exact h1, v1⟩, fun k h1 h2 => ?_, below_then HB6.out HB7.out⟩
    rw [n2] at h2
    exact ⟨dvd_mod h1 h2, h1⟩
  · have hl := HL.out.1
    have hlt : YY < nv Y := by
      rcases hl.lt with h | h
      · exact absurd h hb0
      · exact h
    have hv := HV.out
    have hx0 : 0 < XX := by
      have h1 := hl.nn
      have h2 := hl.le
      rcases Int.lt_or_le 0 XX with h | h
      · exact h
      · have h4 := (HD.out 0 (by rw [show XX = 0 by omega]; exact Int.dvd_refl 0) (by rw [show YY = 0 by omega]; exact Int.dvd_refl 0)).2
        have := Int.zero_dvd.1 h4
        omega
    have CX : Hid (∀ w1, Below w.heap.size w w1 → Calls Try.prog 143 #[.slice (some ad) p c, .slice B m d, .int .i64 fa, .int .i64 fb] w1 (RetN w1 XX p)) := Lib.hid fun w1 h => CCB.out fa fb XX w1 h hl.ba hl.bb (by have := hl.sg; omega) hl.hX.symm (by omega) HL.out.2
    have CY : Hid (∀ w1, Below w.heap.size w w1 → Calls Try.prog 143 #[.slice (some ad) p c, .slice B m d, .int .i64 fc, .int .i64 fd] w1 (RetN w1 YY p)) := Lib.hid fun w1 h => CCB.out fc fd YY w1 h hl.bc hl.bd (by have := hl.sg; omega) hl.hY.symm hl.nn (by have := hl.le; have := HL.out.2; omega)
    have HR := Lib.hid (And.intro hlt (And.intro hx0 hl.le))
    have hb0' : (fb == 0) = false := by simp [hb0]
    clear hl hlt hv hx0
    go_wp2_with (go_at_call 143; first
      | ((with_reducible refine (CX.out _ HB6.out).mono ?_); rintro e7 w7 ⟨v1, l1, rfl, o1, n1, m1, k1, hb7⟩; have HB7 := Lib.hid (below_then HB6.out hb7); have HO1 := Lib.hid (And.intro (o1.base (base' := base) (Nat.le_trans HBS.out hsz)) (And.intro n1 (And.intro m1 k1))); clear hb7 o1 n1 m1 k1)
      | ((with_reducible refine (CY.out _ HB7.out).mono ?_); rintro e8 w8 ⟨v2, l2, rfl, o2, n2, m2, k2, hb8⟩; have HB8 := Lib.hid hb8; have HO2 := Lib.hid (And.intro (o2.base (base' := base) (Nat.le_trans HBS.out HB7.out.size)) (And.intro n2 (And.intro m2 k2))); clear hb8 o2 n2 m2 k2))
    go_ret2
    obtain ⟨o1, n1, m1, k1⟩ := HO1.out
    obtain ⟨o2, n2, m2, k2⟩ := HO2.out
    obtain ⟨r1, r2, r3⟩ := HR.out
    refine ⟨_, l1, _, l2, rfl, ⟨o1.grow HB8.out, m1, k1⟩, ⟨o2, m2, k2⟩, ⟨by rw [n1, n2]; exact r3, by rw [n2]; exact r1, by rw [n1]; exact r2⟩, fun k h1 h2 => ?_, below_then HB7.out HB8.out⟩
    rw [n1] at h1
    rw [n2] at h2
    exact HD.out k h1 h2
end Go.Proofs.Ytmdfgidejdiiiaa
end
section
namespace Go.Proofs.Ytmdfgidejdiiiaa
open Go.RowKit
def rdU (w : World) (A : Option Addr) (k : Nat) : Int := match A with
  | some ad => (match w.cell? (ad.add k) with | some (.int _ x) => x | _ => 0)
  | none => 0
def numAt (w : World) (v : Value) : Nat := match v with
  | .slice A n _ => (nv ((List.range n).map (rdU w A))).toNat
  | _ => 0
theorem numAt_eq {w : World} {A : Option Addr} {n c : Nat} {l : List Int} (h : DigA w A l) (hn : l.length = n) : numAt w (.slice A n c) = (nv l).toNat := by
  have e : (List.range n).map (rdU w A) = l := by
    refine List.ext_getElem? fun k => ?_
    rcases Nat.lt_or_ge k n with hk | hk
    · obtain ⟨ad, x, rfl, _, hx, hc, _⟩ := h.at_ (k := k) (by omega)
      rw [hx, List.getElem?_map, List.getElem?_range hk]
      simp [rdU, hc]
    · rw [List.getElem?_eq_none (by simp; omega), List.getElem?_eq_none (by omega)]
  show (nv ((List.range n).map (rdU w A))).toNat = _
  rw [e]
theorem gcd_meas {base y : Nat} {w5 : World} {v2 : Value} {L2 Y : List Int} (o2 : OwG base w5 v2 L2) (h : nv L2 < nv Y) (hm : y = (nv Y).toNat) : numAt w5 v2 < y := by
  obtain ⟨A2, c2, rfl, _, hd2⟩ := o2.form
  have h1 := nv_low o2.dig
  rw [hm, numAt_eq hd2 rfl]
  omega
theorem digA_two {w : World} {x y : Int} (hx : 0 ≤ x ∧ x < 4294967296) (hy : 0 ≤ y ∧ y < 4294967296) : OwG w.heap.size (w.alloc (.cells #[.int .u32 x, .int .u32 y] 77)) (.slice (some ⟨w.heap.size, 0, none⟩) 2 2) [x, y] :=
  ⟨World.ownsRow_lit w #[.int .u32 x, .int .u32 y] 2 (Nat.le_refl _) (by unfold maxLen; omega) (by simp), fun z hz => by
    rcases List.mem_cons.1 hz with rfl | hz
    · exact hx
    · have := List.mem_singleton.1 hz; subst this; exact hy⟩
def RetG (w : World) (a b : Int) (K : Nat) (e : Ending) (w' : World) : Prop := ∃ v l, e = .returned v ∧ OwG w.heap.size w' v l ∧ (nv l ∣ a ∧ nv l ∣ b) ∧ Nrm l ∧ l.length ≤ K ∧ Below w.heap.size w w'
def GcdI (base : Nat) (a b : Int) (K : Nat) (w0 wr : World) (vx vy : Value) : Prop := ∃ X Y, (OwG base wr vx X ∧ Nrm X ∧ X.length ≤ K) ∧ (OwG base wr vy Y ∧ Nrm Y ∧ Y.length ≤ K) ∧ nv Y ≤ nv X ∧ (∀ k : Int, k ∣ nv X → k ∣ nv Y → k ∣ a ∧ k ∣ b) ∧ Below base w0 wr
set_option maxRecDepth 100000 in
set_option maxHeartbeats 4000000 in
theorem nt_Gcd (A B : Option Addr) (n m c d : Nat) (a b : List Int) (w : World) (ha : DigA w A a) (hb : DigA w B b) (hn : a.length = n) (hm : b.length = m) (hc : n ≤ c) (hd : m ≤ d) (h9 : n ≤ 10000000) (h8 : m ≤ 10000000) :
    Calls Try.prog 118 #[.slice A n c, .slice B m d] w (RetG w (nv a) (nv b) (max n m + 2)) := by
  have CA : Hid (Calls Try.prog 120 #[.slice A n c] w (RetN w (nv a) n)) := Lib.hid (nt_Trim A n c a w ha hn hc (by omega))
  have CB : Hid (∀ w1, Below w.heap.size w w1 → Calls Try.prog 120 #[.slice B m d] w1 (RetN w1 (nv b) m)) := Lib.hid fun w1 h => nt_Trim B m d b w1 (hb.grow h) hm hd (by omega)
  obtain ⟨K, hK⟩ : ∃ K, max n m = K := ⟨_, rfl⟩
  have hK9 : K ≤ 10000000 := by omega
  have HKN : Hid (n ≤ K ∧ m ≤ K) := Lib.hid (by omega)
  rw [hK]
  obtain ⟨va, hva⟩ : ∃ t, nv a = t := ⟨_, rfl⟩
  obtain ⟨vb, hvb⟩ : ∃ t, nv b = t := ⟨_, rfl⟩
  rw [hva] at CA ⊢
  rw [hvb] at CB ⊢
  clear ha hb hn hm hK hva hvb hc hd
  go_enter Try.func118, Try.ntmps118
  go_upto_region 2 with (go_at_call 120; first
    | ((with_reducible refine CA.out.mono ?_); rintro e1 w1 ⟨v1, l1, rfl, o1, n1, m1, k1, hb1⟩; have HB1 := Lib.hid hb1; have H1 := Lib.hid (And.intro o1 (And.intro n1 (And.intro m1 k1))); clear hb1 o1 n1 m1 k1)
    | ((with_reducible refine (CB.out _ HB1.out).mono ?_); rintro e2 w2 ⟨v2, l2, rfl, o2, n2, m2, k2, hb2⟩; have HB2 := Lib.hid hb2; have H2 := Lib.hid (And.intro (o2.base (base' := w.heap.size) HB1.out.size) (And.intro n2 (And.intro m2 k2))); clear hb2 o2 n2 m2 k2))
  have HW2 := Lib.hid (below_then HB1.out HB2.out)
  have H1' := Lib.hid (H1.out.1.grow HB2.out)
  obtain ⟨A1, c1, rfl, hc1, hd1⟩ := H1'.out.form
  obtain ⟨A2, c2, rfl, hc2, hd2⟩ := H2.out.1.form
  have hk1 := H1.out.2.2.2
  have hk2 := H2.out.2.2.2
  have CC : Hid (Calls Try.prog 95 #[.slice A1 l1.length c1, .slice A2 l2.length c2] w2 fun e w' => e = .returned (.int .i64 (cmpI (nv l1) (nv l2))) ∧ Below w2.heap.size w2 w') := Lib.hid (nt_Compare A1 A2 l1.length l2.length c1 c2 l1 l2 w2 hd1 hd2 rfl rfl hc1 hc2 (by have := HKN.out; omega) (by have := HKN.out; omega))
  obtain ⟨R, hR⟩ : ∃ R, cmpI (nv l1) (nv l2) = R := ⟨_, rfl⟩
  rw [hR] at CC
  have HR := Lib.hid hR
  clear hR hc1 hd1 hc2 hd2 hk1 hk2
  go_upto_if 18 with (go_at_call 95; (with_reducible refine CC.out.mono ?_); rintro e3 w3 ⟨rfl, hb3⟩; have HB3 := Lib.hid hb3; clear hb3)
  have HI : Hid (∃ X Y : List Int, X = l1 ∧ Y = l2) := Lib.hid ⟨_, _, rfl, rfl⟩
  go_cut [5, 6] (fun vx vy wx => wx = w3 ∧ Hid (GcdI w.heap.size va vb K w wx vx vy))
  case first =>
    by_cases hlt : R < 0
    · have hs : Hid (GcdI w.heap.size va vb K w w3 (.slice A2 l2.length c2) (.slice A1 l1.length c1)) := Lib.hid (by
        have h := HR.out
        have hle : nv l1 ≤ nv l2 := by unfold cmpI at h; split at h <;> omega
        obtain ⟨h1, h2, h3, h4⟩ := H1.out
        obtain ⟨g1, g2, g3, g4⟩ := H2.out
        have hkn := HKN.out
        refine ⟨l2, l1, ⟨g1.grow HB3.out, g3, by omega⟩, ⟨H1'.out.grow HB3.out, h3, by omega⟩, hle, fun k e1 e2 => ⟨by rw [← h2]; exact e2, by rw [← g2]; exact e1⟩, below_then HW2.out HB3.out⟩)
      go_wp2_with fail
      go_meet
      exact ⟨rfl, hs⟩
    · have hs : Hid (GcdI w.heap.size va vb K w w3 (.slice A1 l1.length c1) (.slice A2 l2.length c2)) := Lib.hid (by
        have h := HR.out
        have hle : nv l2 ≤ nv l1 := by unfold cmpI at h; split at h; omega; split at h <;> omega
        obtain ⟨h1, h2, h3, h4⟩ := H1.out
        obtain ⟨g1, g2, g3, g4⟩ := H2.out
        have hkn := HKN.out
        refine ⟨l1, l2, ⟨H1'.out.grow HB3.out, h3, by omega⟩, ⟨g1.grow HB3.out, g3, by omega⟩, hle, fun k e1 e2 => ⟨by rw [← h2]; exact e1, by rw [← g2]; exact e2⟩, below_then HW2.out HB3.out⟩)
      go_wp2_with fail
      go_meet
      exact ⟨rfl, hs⟩
  case rest =>
    obtain ⟨rfl, HI0⟩ := hcut
    clear CC CA CB H1 H2 H1' HR HI HB1 HB2
    go_upto_region 4 with fail
    go_loopw [5, 6] (fun vx vy wr => Hid (GcdI w.heap.size va vb K w wr vx vy)) (fun _ vy wr => numAt wr vy)
    case atStart => exact HI0
    case round =>
      obtain ⟨X, Y, ⟨x1, x2, x3⟩, ⟨y1, y2, y3⟩, hle, hdv, hbw⟩ := hrel.out
      obtain ⟨AX, cx, rfl, hcx, hdx⟩ := x1.form
      obtain ⟨AY, cy, rfl, hcy, hdy⟩ := y1.form
      have HDV := Lib.hid hdv
      have HBW := Lib.hid hbw
      have HX := Lib.hid (And.intro x1 x2)
      have HY := Lib.hid (And.intro y1 y2)
      by_cases h2 : 2 < Y.length
      · have CS : Hid (Calls Try.prog 129 #[.slice AX X.length cx, .slice AY Y.length cy] wr (RetShort w.heap.size (nv X) (nv Y) X.length wr)) := Lib.hid (nt_shorten w.heap.size AX AY X.length Y.length cx cy X Y wr hbw.size x1 y1 (by omega) x2 y2 hle h2)
        have HM := Lib.hid (numAt_eq (c := cy) hdy rfl)
        have hL : (2 : Int) < (Y.length : Int) := by omega
        clear hdv hbw x1 x2 y1 y2 hcx hdx hcy hdy hrel
        have HLX : Hid (X.length ≤ K) := Lib.hid x3
        go_wp2_with (go_at_call 129; (with_reducible refine CS.out.mono ?_); rintro e5 w5 ⟨v1, L1, v2, L2, rfl, ⟨o1, m1, k1⟩, ⟨o2, m2, k2⟩, ⟨i1, i2, i3⟩, hk, hb5⟩; have HG : Hid (GcdI w.heap.size va vb K w w5 v1 v2) := Lib.hid ⟨L1, L2, ⟨o1, m1, Nat.le_trans k1 HLX.out⟩, ⟨o2, m2, Nat.le_trans k2 HLX.out⟩, i1, fun k e1 e2 => HDV.out k (hk k e1 e2).1 (hk k e1 e2).2, below_then HBW.out hb5⟩; have HM2 : Hid (numAt w5 v2 < numAt wr (.slice AY Y.length cy)) := Lib.hid (gcd_meas o2 i2 HM.out); clear o1 m1 k1 o2 m2 k2 i1 i2 i3 hk hb5)
        go_roundw
        case rel => exact HG
        case measure => exact HM2.out
      · have hL : ¬ (2 : Int) < (Y.length : Int) := by omega
        by_cases h0 : Y = []
        · subst h0
          have HN : Hid (nv X ∣ va ∧ nv X ∣ vb) := Lib.hid (hdv _ (Int.dvd_refl _) (by simp [nv]))
          clear hdv hbw x1 x2 y1 y2 hcx hdx hcy hdy hrel
          go_wp2_with fail
          go_ret
          exact ⟨_, X, rfl, HX.out.1, HN.out, HX.out.2, by omega, HBW.out⟩
        · have CD : Hid (Calls Try.prog 128 #[.slice AX X.length cx, .slice AY Y.length cy] wr (RetQR wr (nv X / nv Y) (nv X % nv Y) X.length Y.length)) := Lib.hid (nt_divide AX AY X.length Y.length cx cy X Y wr hdx hdy rfl rfl hcx hcy (by omega) (by omega) x2 y2 h0)
          have CSY : Hid (∀ w1, Below wr.heap.size wr w1 → Calls Try.prog 130 #[.slice AY Y.length cy] w1 fun e w' => e = .returned (.int .u64 (nv Y)) ∧ Below w1.heap.size w1 w') := Lib.hid fun w1 h => nt_small AY Y.length cy Y w1 (hdy.grow h) rfl (by omega)
          have hyl : Y.length ≠ 0 := by intro e; exact h0 (List.length_eq_zero_iff.1 e)
          have hyl' : (Y.length : Int) ≠ 0 := by omega
          have HYB : Hid (0 ≤ nv Y ∧ nv Y < 18446744073709551616) := Lib.hid (by
            have h1 := nv_lt y1.dig
            have h3 := bp_le (show Y.length ≤ 2 by omega)
            have h4 : bp 2 = 18446744073709551616 := by rw [bp_succ, bp_one]; rfl
            exact ⟨nv_low y1.dig, by omega⟩)
          have hy2 : Y.length ≤ 2 := by omega
          clear hdv hbw x1 x2 y1 y2 hcx hdx hcy hdy hrel
          go_upto_region 9 with (go_at_call 128; (with_reducible refine CD.out.mono ?_); rintro e6 w6 ⟨v1, L1, v2, L2, rfl, -, ⟨o2, n2, m2, k2⟩, hb6⟩; have HB6 := Lib.hid hb6; have H2 := Lib.hid (And.intro o2 (And.intro n2 k2)); clear hb6 o2 n2 m2 k2)
          obtain ⟨A2, c2, rfl, _, hd2⟩ := H2.out.1.form
          have CSR : Hid (∀ w1, Below w6.heap.size w6 w1 → Calls Try.prog 130 #[.slice A2 L2.length c2] w1 fun e w' => e = .returned (.int .u64 (nv L2)) ∧ Below w1.heap.size w1 w') := Lib.hid fun w1 h => nt_small A2 L2.length c2 L2 w1 (hd2.grow h) rfl (by have := H2.out.2.2; omega)
          have HRB : Hid ((0 ≤ nv L2 ∧ nv L2 < 18446744073709551616) ∧ nv L2 = nv X % nv Y) := Lib.hid (by
            have h1 := nv_lt H2.out.1.dig
            have h3 := bp_le (show L2.length ≤ 2 by have := H2.out.2.2; omega)
            have h4 : bp 2 = 18446744073709551616 := by rw [bp_succ, bp_one]; rfl
            exact ⟨⟨nv_low H2.out.1.dig, by omega⟩, H2.out.2.1⟩)
          clear hd2
          go_upto_region 10 with (go_at_call 130; first
            | ((with_reducible refine (CSY.out _ HB6.out).mono ?_); rintro e7 w7 ⟨rfl, hb7⟩; have HB7 := Lib.hid hb7; clear hb7)
            | ((with_reducible refine (CSR.out _ HB7.out).mono ?_); rintro e8 w8 ⟨rfl, hb8⟩; have HB8 := Lib.hid hb8; clear hb8))
          have HW8 := Lib.hid (below_then (below_then (below_then HBW.out HB6.out) HB7.out) HB8.out)
          go_loopw [9, 10] (fun vp vq wl => ∃ p q : Int, vp = .int .u64 p ∧ vq = .int .u64 q ∧ (0 ≤ p ∧ p < 18446744073709551616) ∧ (0 ≤ q ∧ q < 18446744073709551616) ∧ Hid (∀ k : Int, k ∣ p → k ∣ q → k ∣ va ∧ k ∣ vb) ∧ Hid (Below w.heap.size w wl)) (fun _ vq _ => (intOf vq).toNat)
          case atStart => exact ⟨nv Y, nv L2, rfl, rfl, HYB.out, HRB.out.1, Lib.hid (fun k e1 e2 => HDV.out k (dvd_mod e1 (by rw [← HRB.out.2]; exact e2)) e1), HW8⟩
          case round =>
            obtain ⟨p, q, rfl, rfl, ⟨p1, p2⟩, ⟨q1, q2⟩, HK, HBL⟩ := hrel
            by_cases hq0 : q = 0
            · subst hq0
              have HN := Lib.hid (HK.out p (Int.dvd_refl p) (Int.dvd_zero p))
              have z1 : 0 ≤ p % 4294967296 ∧ p % 4294967296 < 4294967296 := by omega
              have z2 : 0 ≤ p / 4294967296 ∧ p / 4294967296 < 4294967296 := by omega
              have ho := (digA_two (w := wr) z1 z2).base (base' := w.heap.size) HBL.out.size
              have hb := (Below.refl wr.heap.size wr).alloc (Nat.le_refl _) (.cells #[.int .u32 (p % 4294967296), .int .u32 (p / 4294967296)] 77)
              have CC : Hid (Calls Try.prog 115 #[.slice (some ⟨wr.heap.size, 0, none⟩) 2 2] (wr.alloc (.cells #[.int .u32 (p % 4294967296), .int .u32 (p / 4294967296)] 77)) (RetCut (wr.alloc (.cells #[.int .u32 (p % 4294967296), .int .u32 (p / 4294967296)] 77)) (some ⟨wr.heap.size, 0, none⟩) 2 [p % 4294967296, p / 4294967296])) := Lib.hid (nt_cut _ _ _ _ _ ho.digA rfl (Nat.le_refl _) (by omega))
              have HO := Lib.hid ho
              have HB9 := Lib.hid (below_then HBL.out hb)
              have HP : Hid (nv [p % 4294967296, p / 4294967296] = p) := Lib.hid (by simp only [nv]; omega)
              clear ho hb
              go_wp2_with (go_at_call 115; (with_reducible refine CC.out.mono ?_); intro e9 w9 h9'; have H9 := Lib.hid (RetCut.toN HO.out HB9.out h9'); obtain ⟨k9, _, rfl, hb9⟩ := h9')
              go_ret
              obtain ⟨v, l, e, o, hn, hnr, hk, hbb⟩ := H9.out
              rw [HP.out] at hn
              injection e with e
              subst e
              exact ⟨_, l, rfl, o, by rw [hn]; exact HN.out, hnr, by omega, hbb⟩
            · have hq' : (q == 0) = false := by simp [hq0]
              have r1 := Int.emod_nonneg p hq0
              have r2 := Int.emod_lt_of_pos p (show 0 < q by omega)
              have HR := Lib.hid (And.intro r1 r2)
              go_upto_region 11 with fail
              go_quiet (fail)
              have HBD : Hid (Below w.heap.size w (wr.drewN nq)) := Lib.hid (below_drewN HBL.out _)
              generalize wr.drewN nq = wd at HBD ⊢
              go_wp2_with fail
              go_roundw
              case rel => exact ⟨q, p % q, rfl, rfl, ⟨q1, q2⟩, ⟨HR.out.1, by have := HR.out.2; omega⟩, Lib.hid (fun k e1 e2 => HK.out k (dvd_mod e1 e2) e1), HBD⟩
              case measure => simp [intOf]; omega
end Go.Proofs.Ytmdfgidejdiiiaa
end
section
namespace Go.Proofs.Ytmdfgidejdiiiaa
open Go.RowKit
theorem Own.kept {base : Nat} {w w' : World} {v : Value} {l : List Int} {r : Option Nat} (h : Own base w v l) (hg : w.grownBy w' r) (hne : v.ownBlock = none ∨ v.ownBlock ≠ r) : Own base w' v l := ⟨h.1.kept hg hne, h.2⟩
theorem Own.len {base : Nat} {w : World} {A : Option Addr} {n c : Nat} {l : List Int} (h : Own base w (.slice A n c) l) : n = l.length := by
  obtain ⟨A', c', e, _, _⟩ := h.form
  injection e
end Go.Proofs.Ytmdfgidejdiiiaa
end
section
namespace Go.Proofs.Ytmdfgidejdiiiaa
open Go.RowKit
theorem Own.empty {w : World} {g : Nat} (hg : g = w.heap.size) : Own g (w.alloc (.cells #[] 3)) (.slice (some ⟨g, 0, none⟩) 0 0) [] := by
  subst hg
  refine ⟨⟨rfl, .inr ⟨w.heap.size, 0, #[], rfl, Nat.le_refl _, heap_alloc_new w _, Nat.le_refl _, by simp, by simp, by simp⟩⟩, by simp⟩
end Go.Proofs.Ytmdfgidejdiiiaa
end
section
namespace Go.Proofs.Ytmdfgidejdiiiaa
open Go.RowKit
def wB (x : Int) : Bool := inB x (-2147483648) 2147483647
end Go.Proofs.Ytmdfgidejdiiiaa
end
section
namespace Go.Proofs.Ytmdfgidejdiiiaa
open Go.RowKit
theorem wd_Within (v m : Int) (w : World) (hm : m ≤ 9223372036854775807) : Calls Try.prog 56 #[.int .i64 v, .int .i64 m] w fun e w' => e = .returned (.int .i64 (withinF v m)) ∧ w = w' := by
  by_cases h : 1 ≤ m
  · obtain ⟨T, e1, a1, f1, f2⟩ := within_facts h v
    have F1 := Lib.hid f1
    have F2 := Lib.hid f2
    clear f1 f2
    go_enter Try.func56, Try.ntmps56
    go_wp2
    all_goals go_ret
    · exact ⟨ret_int (F1.out (by omega)).symm, rfl⟩
    · exact ⟨ret_int (F2.out (by omega)).symm, rfl⟩
  · have E : Hid (withinF v m = 0) := by unfold withinF; rw [if_pos (by omega)]; exact rfl
    go_enter Try.func56, Try.ntmps56
    go_wp2
    go_ret
    exact ⟨ret_int E.out.symm, rfl⟩
theorem known21 (w : World) : Calls Try.prog 7 #[] w fun e w' => e = .returned (.bool true) ∧ Below w.heap.size w w' := by
  have s1 : shiftF (-3) 1 1 = -2 := by decide
  have s2 : shiftF (-3) 1 2 = -1 := by decide
  have s3 : shiftF (-3) 1 3 = -1 := by decide
  have s4 : wrapF 4 9 = -7 := by decide
  have hv : I64 (-3) := ⟨by decide, by decide⟩
  have HV := Lib.hid hv
  have hb := Below.refl w.heap.size w
  clear hv
  go_enter Try.func7, Try.ntmps7
  go_wp2_with (first
    | (go_at_call 39; refine (fx_Shift _ _ _ _ HV.out).mono ?_; rintro e w1 ⟨rfl, hb1⟩; have hb := below_then hb hb1)
    | (go_at_call 40; refine (fx_Wrap _ _ _).mono ?_; rintro e w1 ⟨rfl, rfl⟩))
  go_ret
  exact ⟨rfl, hb⟩
end Go.Proofs.Ytmdfgidejdiiiaa
end
section
namespace Go.Proofs.Ytmdfgidejdiiiaa
open Go.RowKit
def wordF (b f r o : Int) (x : Int) : Int := lowW b f r o + withinF (wrap64 (x - lowW b f r o)) (highW b f r o - lowW b f r o + 1)
def wordsF (b f r o : Int) (l : List Int) (count : Nat) : List Int := (List.range count).map fun (i : Nat) => wordF b f r o (atF l i)
theorem wordsF_succ (b f r o : Int) (l : List Int) (k : Nat) : wordsF b f r o l (k + 1) = wordsF b f r o l k ++ [wordF b f r o (atF l k)] := by
  simp [wordsF, List.range_succ]
theorem wordsF_length (b f r o : Int) (l : List Int) (k : Nat) : (wordsF b f r o l k).length = k := by simp [wordsF]
theorem wd_Words (b f r o : Int) (A : Option Addr) (l : List Int) (c : Nat) (n : Nat) (w : World) (hn : n ≤ 1000000) (h : Ints w A l) :
    Calls Try.prog 11 #[wordV b f r o, .slice A l.length c, .int .i64 n] w fun e w' => ∃ v, e = .returned v ∧ Own w.heap.size w' v (wordsF b f r o l n) ∧ Below w.heap.size w w' := by
  go_enter Try.func11, Try.ntmps11
  go_wp2
  go_loopw [7, 8] (fun v i wr => ∃ k : Nat, k ≤ n ∧ i = .int .i64 k ∧ Own (w.heap.size + 1) wr v (wordsF b f r o l k) ∧ Below (w.heap.size + 1) (w.alloc (.cells #[.int .i64 b, .int .i64 f, .int .i64 r, .int .i64 o] 23)) wr) (fun _ i _ => n - (intOf i).toNat)
  case atStart => exact ⟨0, Nat.zero_le _, rfl, Own.nil, Below.refl _ _⟩
  case round =>
    obtain ⟨k, hk, rfl, hown, hbw⟩ := hrel
    by_cases hlt : k < n
    · have HS := Lib.hid (wordsF_succ b f r o l k)
      have hlen' : (wordsF b f r o l k).length < 100000000 := by rw [wordsF_length]; omega
      obtain ⟨L, hL⟩ : ∃ L, lowW b f r o = L := ⟨_, rfl⟩
      obtain ⟨H, hH⟩ : ∃ H, highW b f r o = H := ⟨_, rfl⟩
      obtain ⟨q1, q2, q3, q4⟩ := low_high b f r o
      rw [hL] at q1 q2
      rw [hH] at q3 q4
      obtain ⟨g1, g2⟩ := within_in (m := H - L + 1) (by omega) (wrap64 (atF l k - L))
      obtain ⟨y, hy⟩ : ∃ y, withinF (wrap64 (atF l k - L)) (H - L + 1) = y := ⟨_, rfl⟩
      have HY : Hid (wordF b f r o (atF l k) = L + y) := by unfold wordF; rw [hL, hH, hy]; exact rfl
      rw [hy] at g1 g2
      have hI : I64 (L + y) := ⟨by omega, by omega⟩
      have hsz : w.heap.size + 1 ≤ wr.drew.heap.size := by have := hbw.size; simp at this; show _ ≤ wr.heap.size; omega
      have hbw2 := hbw.drew
      have hown2 : Own (w.heap.size + 1) wr.drew _ _ := hown
      have hm : H - L + 1 ≤ 9223372036854775807 := by omega
      obtain ⟨X, hX⟩ : ∃ X, IntKind.i64.wrap (atF l k - L) = X := ⟨_, rfl⟩
      have hy2 : withinF X (H - L + 1) = y := by rw [← hX, IntKind.wrap_i64]; unfold wrap64 at hy; exact hy
      have e1 : IntKind.i64.wrap (H - L) = H - L := IntWalk.i64_in _ (by omega)
      have e2 : IntKind.i64.wrap (H - L + 1) = H - L + 1 := IntWalk.i64_in _ (by omega)
      have e3 : IntKind.i64.wrap (L + y) = L + y := IntWalk.i64_in _ (by omega)
      clear hown hbw hy
      go_wp2_with fail
      go_region_held3 (fun w' => (w'.cell? ⟨w.heap.size, 0, none⟩ = some (.int .i64 b) ∧ w'.cell? ⟨w.heap.size, 1, none⟩ = some (.int .i64 f) ∧ w'.cell? ⟨w.heap.size, 2, none⟩ = some (.int .i64 r) ∧ w'.cell? ⟨w.heap.size, 3, none⟩ = some (.int .i64 o)))
        (first | exact box4_S (by assumption) | exact box4_S (hbw2.alloc hsz _))
        (first
          | (go_at_call 57; refine (rf_Low _ _ _ _ _).mono ?_; rintro e w1 ⟨rfl, hb1⟩; have hown2 := hown2.grow hb1; have hbw2 := hbw2.trans (hb1.mono hsz); have hsz := Nat.le_trans hsz hb1.size)
          | (go_at_call 59; refine (rf_High _ _ _ _ _).mono ?_; rintro e w1 ⟨rfl, hb1⟩; have hown2 := hown2.grow hb1; have hbw2 := hbw2.trans (hb1.mono hsz); have hsz := Nat.le_trans hsz hb1.size)
          | (go_at_call 58; refine (wd_At _ _ _ _ _ (h.grow (below_box hbw2))).mono ?_; rintro e w1 ⟨rfl, rfl⟩)
          | (go_at_call 56; refine (wd_Within _ _ _ hm).mono ?_; rintro e w1 ⟨rfl, rfl⟩)
          | ((with_reducible refine step_app_int _ rfl (.tmp 14) (.tmp 31) rfl (w.heap.size + 1) hown2 ?_ ?_ ?_ hlen' hsz hI ?_); (exact rfl); (exact rfl); (exact rfl); intro v1 w1 hown3 hbel1; have hbw2 := hbw2.trans hbel1))
      clear e1 e2 e3 hX hy2
      go_wp2
      go_roundw
      case rel => exact ⟨k + 1, by omega, by go_num, by rw [HS.out, HY.out]; exact hown3, hbw2⟩
      case measure => simp [intOf]; omega
    · go_wp2
      go_ret
      obtain rfl : k = n := by omega
      exact ⟨_, rfl, hown.base (by omega), below_box hbw⟩
end Go.Proofs.Ytmdfgidejdiiiaa
end
section
namespace Go.Proofs.Ytmdfgidejdiiiaa
open Go.RowKit
end Go.Proofs.Ytmdfgidejdiiiaa
end
section
namespace Go.Proofs.Ytmdfgidejdiiiaa
open Go.RowKit
theorem Ints.takeL {w : World} {B : Option Addr} {l : List Int} (h : Ints w B l) (k : Nat) : Ints w B (l.take k) := by
  refine ⟨fun j v hj => h.1 j v ?_, fun x hx => h.2 x (List.mem_of_mem_take hx)⟩
  rw [List.map_take, List.getElem?_take] at hj
  split at hj
  · exact hj
  · cases hj
theorem Ints.dropL {w : World} {B : Option Addr} {l : List Int} {c k : Nat} (h : Ints w B l) (hc : l.length ≤ c) : Ints w (if c = k then B else B.map (fun x => x.add k)) (l.drop k) := by
  refine ⟨fun j v hj => ?_, fun x hx => h.2 x (List.mem_of_mem_drop hx)⟩
  rw [List.map_drop, List.getElem?_drop] at hj
  obtain ⟨ad, e, h1, h2⟩ := h.1 (k + j) v hj
  have hlt : k + j < l.length := by have := (List.getElem?_eq_some_iff.1 hj).1; simpa using this
  rw [if_neg (by omega), e]
  exact ⟨ad.add k, rfl, by rw [block_add]; exact h1, by rw [add_add]; exact h2⟩
end Go.Proofs.Ytmdfgidejdiiiaa
end
section
namespace Go.Proofs.Ytmdfgidejdiiiaa
open Go.RowKit
def Box (w : World) (g : Nat) (vs : List Value) : Prop := g < w.heap.size ∧ (∀ k, w.cell? ⟨g, k, none⟩ = vs[k]?) ∧ ∀ k, w.frozen? ⟨g, k, none⟩ = false
theorem Box.new {w : World} {vs : Array Value} {t : TypeId} {g : Nat} (h : g = w.heap.size) : Box (w.alloc (.cells vs t)) g vs.toList := by
  subst h
  refine ⟨by simp, fun k => ?_, fun k => ?_⟩
  · rw [cell_of_row _ w.heap.size k vs t (0, 0) (heap_alloc_new w _)]
    simp
  · exact frozen_of_row _ w.heap.size k vs t (heap_alloc_new w _)
theorem Box.block {w w' : World} {g : Nat} {vs : List Value} (h : Box w g vs) (hb : w'.heap[g]? = w.heap[g]?) (hs : w.heap.size ≤ w'.heap.size) : Box w' g vs :=
  ⟨Nat.lt_of_lt_of_le h.1 hs, fun k => (World.cell?_of_block (a := ⟨g, k, none⟩) hb).trans (h.2.1 k), fun k => (World.frozen?_of_block (a := ⟨g, k, none⟩) hb).trans (h.2.2 k)⟩
theorem Box.keep {w w' : World} {g : Nat} {vs : List Value} (h : Box w g vs) (hb : Below w.heap.size w w') : Box w' g vs := h.block (hb.block g h.1) hb.size
theorem Box.grown {w w' : World} {g : Nat} {vs : List Value} {r : Option Nat} (h : Box w g vs) (hb : w.grownBy w' r) (hn : some g ≠ r) : Box w' g vs := h.block (hb.block g h.1 hn) hb.size
theorem Box.alloc {w : World} {g : Nat} {vs : List Value} (h : Box w g vs) (o : Obj) : Box (w.alloc o) g vs := h.keep ((Below.refl _ _).alloc (Nat.le_refl _) o)
theorem Box.drew {w : World} {g : Nat} {vs : List Value} (h : Box w g vs) : Box w.drew g vs := h.keep ((Below.refl _ _).drew)
theorem Box.set {w : World} {g k : Nat} {vs : List Value} {u : Value} (h : Box w g vs) (hk : k < vs.length := by simp) : Box (w.setCell ⟨g, k, none⟩ u) g (vs.set k u) := by
  obtain ⟨h1, h2, h3⟩ := h
  refine ⟨by simpa [World.setCell] using h1, fun j => ?_, fun j => by rw [World.frozen?_setCell]; exact h3 j⟩
  rw [List.getElem?_set]
  by_cases e : k = j
  · subst e
    rw [if_pos rfl, if_pos hk]
    exact World.cell?_setCell_same _ _ _ ((h2 k).trans (List.getElem?_eq_getElem hk))
  · rw [if_neg e, World.cell?_setCell_other _ _ _ _ (by intro hc; injection hc with _ hc; exact e hc)]
    exact h2 j
theorem Box.c2 {w : World} {g : Nat} {a b : Value} (h : Box w g [a, b]) : w.cell? ⟨g, 0, none⟩ = some a ∧ w.cell? ⟨g, 1, none⟩ = some b := ⟨h.2.1 0, h.2.1 1⟩
theorem Box.c4 {w : World} {g : Nat} {a b c d : Value} (h : Box w g [a, b, c, d]) : w.cell? ⟨g, 0, none⟩ = some a ∧ w.cell? ⟨g, 1, none⟩ = some b ∧ w.cell? ⟨g, 2, none⟩ = some c ∧ w.cell? ⟨g, 3, none⟩ = some d := ⟨h.2.1 0, h.2.1 1, h.2.1 2, h.2.1 3⟩
theorem Box.c12 {w : World} {g : Nat} {a b c d a' b' c' d' i j k l : Value} (h : Box w g [a, b, c, d, a', b', c', d', i, j, k, l]) :
    (w.cell? ⟨g, 0, none⟩ = some a ∧ w.cell? ⟨g, 1, none⟩ = some b ∧ w.cell? ⟨g, 2, none⟩ = some c ∧ w.cell? ⟨g, 3, none⟩ = some d) ∧ (w.cell? ⟨g, 4, none⟩ = some a' ∧ w.cell? ⟨g, 5, none⟩ = some b' ∧ w.cell? ⟨g, 6, none⟩ = some c' ∧ w.cell? ⟨g, 7, none⟩ = some d') ∧
    w.cell? ⟨g, 8, none⟩ = some i ∧ w.cell? ⟨g, 9, none⟩ = some j ∧ w.cell? ⟨g, 10, none⟩ = some k ∧ w.cell? ⟨g, 11, none⟩ = some l :=
  ⟨⟨h.2.1 0, h.2.1 1, h.2.1 2, h.2.1 3⟩, ⟨h.2.1 4, h.2.1 5, h.2.1 6, h.2.1 7⟩, h.2.1 8, h.2.1 9, h.2.1 10, h.2.1 11⟩
end Go.Proofs.Ytmdfgidejdiiiaa
end
