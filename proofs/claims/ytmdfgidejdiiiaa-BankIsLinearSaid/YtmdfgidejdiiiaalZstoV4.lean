/- Several texts in one: Zs V2 V3 V4. -/
import Derived.Test.YtmdfgidejdiiiaalZotoZr
import Derived.Test.YtmdfgidejdiiiaalFxtoV1
import Derived.Test.YtmdfgidejdiiiaalPltoZa
import Derived.Maps.AppendAt
set_option linter.unusedVariables false
set_option linter.unusedSimpArgs false
section
namespace Go.Proofs.Ytmdfgidejdiiiaa
open Go.RowKit
def rdU (w : World) (A : Option Addr) (k : Nat) : Int := match A with
  | some ad => (match w.cell? (ad.add k) with | some (.int _ x) => x | _ => 0)
  | none => 0
def numAt (w : World) (v : Value) : Nat := match v with
  | .slice A n _ => (nv ((List.range n).map (rdU w A))).toNat
  | _ => 0
theorem numAt_eq {w : World} {A : Option Addr} {n c : Nat} {l : List Int} (h : DigA w A l) (hn : l.length = n) : numAt w (.slice A n c) = (nv l).toNat := by
  have e : (List.range n).map (rdU w A) = l := by
    refine List.ext_getElem? fun k => ?_
    rcases Nat.lt_or_ge k n with hk | hk
    · obtain ⟨ad, x, rfl, _, hx, hc, _⟩ := h.at_ (k := k) (by omega)
      rw [hx, List.getElem?_map, List.getElem?_range hk]
      simp [rdU, hc]
    · rw [List.getElem?_eq_none (by simp; omega), List.getElem?_eq_none (by omega)]
  show (nv ((List.range n).map (rdU w A))).toNat = _
  rw [e]
theorem gcd_meas {base y : Nat} {w5 : World} {v2 : Value} {L2 Y : List Int} (o2 : OwG base w5 v2 L2) (h : nv L2 < nv Y) (hm : y = (nv Y).toNat) : numAt w5 v2 < y := by
  obtain ⟨A2, c2, rfl, _, hd2⟩ := o2.form
  have h1 := nv_low o2.dig
  rw [hm, numAt_eq hd2 rfl]
  omega
theorem digA_two {w : World} {x y : Int} (hx : 0 ≤ x ∧ x < 4294967296) (hy : 0 ≤ y ∧ y < 4294967296) : OwG w.heap.size (w.alloc (.cells #[.int .u32 x, .int .u32 y] 77)) (.slice (some ⟨w.heap.size, 0, none⟩) 2 2) [x, y] :=
  ⟨World.ownsRow_lit w #[.int .u32 x, .int .u32 y] 2 (Nat.le_refl _) (by unfold maxLen; omega) (by simp), fun z hz => by
    rcases List.mem_cons.1 hz with rfl | hz
    · exact hx
    · have := List.mem_singleton.1 hz; subst this; exact hy⟩
def RetG (w : World) (a b : Int) (K : Nat) (e : Ending) (w' : World) : Prop := ∃ v l, e = .returned v ∧ OwG w.heap.size w' v l ∧ (nv l ∣ a ∧ nv l ∣ b) ∧ Nrm l ∧ l.length ≤ K ∧ Below w.heap.size w w'
def GcdI (base : Nat) (a b : Int) (K : Nat) (w0 wr : World) (vx vy : Value) : Prop := ∃ X Y, (OwG base wr vx X ∧ Nrm X ∧ X.length ≤ K) ∧ (OwG base wr vy Y ∧ Nrm Y ∧ Y.length ≤ K) ∧ nv Y ≤ nv X ∧ (∀ k : Int, k ∣ nv X → k ∣ nv Y → k ∣ a ∧ k ∣ b) ∧ Below base w0 wr
set_option maxRecDepth 100000 in
set_option maxHeartbeats 4000000 in
theorem nt_Gcd (A B : Option Addr) (n m c d : Nat) (a b : List Int) (w : World) (ha : DigA w A a) (hb : DigA w B b) (hn : a.length = n) (hm : b.length = m) (hc : n ≤ c) (hd : m ≤ d) (h9 : n ≤ 10000000) (h8 : m ≤ 10000000) :
    Calls Try.prog 118 #[.slice A n c, .slice B m d] w (RetG w (nv a) (nv b) (max n m + 2)) := by
  have CA : Hid (Calls Try.prog 120 #[.slice A n c] w (RetN w (nv a) n)) := Lib.hid (nt_Trim A n c a w ha hn hc (by omega))
  have CB : Hid (∀ w1, Below w.heap.size w w1 → Calls Try.prog 120 #[.slice B m d] w1 (RetN w1 (nv b) m)) := Lib.hid fun w1 h => nt_Trim B m d b w1 (hb.grow h) hm hd (by omega)
  obtain ⟨K, hK⟩ : ∃ K, max n m = K := ⟨_, rfl⟩
  have hK9 : K ≤ 10000000 := by omega
  have HKN : Hid (n ≤ K ∧ m ≤ K) := Lib.hid (by omega)
  rw [hK]
  obtain ⟨va, hva⟩ : ∃ t, nv a = t := ⟨_, rfl⟩
  obtain ⟨vb, hvb⟩ : ∃ t, nv b = t := ⟨_, rfl⟩
  rw [hva] at CA ⊢
  rw [hvb] at CB ⊢
  clear ha hb hn hm hK hva hvb hc hd
  go_enter Try.func118, Try.ntmps118
  go_upto_region 2 with (go_at_call 120; first
    | ((with_reducible refine CA.out.mono ?_); rintro e1 w1 ⟨v1, l1, rfl, o1, n1, m1, k1, hb1⟩; have HB1 := Lib.hid hb1; have H1 := Lib.hid (And.intro o1 (And.intro n1 (And.intro m1 k1))); clear hb1 o1 n1 m1 k1)
    | ((with_reducible refine (CB.out _ HB1.out).mono ?_); rintro e2 w2 ⟨v2, l2, rfl, o2, n2, m2, k2, hb2⟩; have HB2 := Lib.hid hb2; have H2 := Lib.hid (And.intro (o2.base (base' := w.heap.size) HB1.out.size) (And.intro n2 (And.intro m2 k2))); clear hb2 o2 n2 m2 k2))
  have HW2 := Lib.hid (below_then HB1.out HB2.out)
  have H1' := Lib.hid (H1.out.1.grow HB2.out)
  obtain ⟨A1, c1, rfl, hc1, hd1⟩ := H1'.out.form
  obtain ⟨A2, c2, rfl, hc2, hd2⟩ := H2.out.1.form
  have hk1 := H1.out.2.2.2
  have hk2 := H2.out.2.2.2
  have CC : Hid (Calls Try.prog 95 #[.slice A1 l1.length c1, .slice A2 l2.length c2] w2 fun e w' => e = .returned (.int .i64 (cmpI (nv l1) (nv l2))) ∧ Below w2.heap.size w2 w') := Lib.hid (nt_Compare A1 A2 l1.length l2.length c1 c2 l1 l2 w2 hd1 hd2 rfl rfl hc1 hc2 (by have := HKN.out; omega) (by have := HKN.out; omega))
  obtain ⟨R, hR⟩ : ∃ R, cmpI (nv l1) (nv l2) = R := ⟨_, rfl⟩
  rw [hR] at CC
  have HR := Lib.hid hR
  clear hR hc1 hd1 hc2 hd2 hk1 hk2
  go_upto_if 18 with (go_at_call 95; (with_reducible refine CC.out.mono ?_); rintro e3 w3 ⟨rfl, hb3⟩; have HB3 := Lib.hid hb3; clear hb3)
  have HI : Hid (∃ X Y : List Int, X = l1 ∧ Y = l2) := Lib.hid ⟨_, _, rfl, rfl⟩
  go_cut [5, 6] (fun vx vy wx => wx = w3 ∧ Hid (GcdI w.heap.size va vb K w wx vx vy))
  case first =>
    by_cases hlt : R < 0
    · have hs : Hid (GcdI w.heap.size va vb K w w3 (.slice A2 l2.length c2) (.slice A1 l1.length c1)) := Lib.hid (by
        have h := HR.out
        have hle : nv l1 ≤ nv l2 := by unfold cmpI at h; split at h <;> omega
        obtain ⟨h1, h2, h3, h4⟩ := H1.out
        obtain ⟨g1, g2, g3, g4⟩ := H2.out
        have hkn := HKN.out
        refine ⟨l2, l1, ⟨g1.grow HB3.out, g3, by omega⟩, ⟨H1'.out.grow HB3.out, h3, by omega⟩, hle, fun k e1 e2 => ⟨by rw [← h2]; exact e2, by rw [← g2]; exact e1⟩, below_then HW2.out HB3.out⟩)
      go_wp2_with fail
      go_meet
      exact ⟨rfl, hs⟩
    · have hs : Hid (GcdI w.heap.size va vb K w w3 (.slice A1 l1.length c1) (.slice A2 l2.length c2)) := Lib.hid (by
        have h := HR.out
        have hle : nv l2 ≤ nv l1 := by unfold cmpI at h; split at h; omega; split at h <;> omega
        obtain ⟨h1, h2, h3, h4⟩ := H1.out
        obtain ⟨g1, g2, g3, g4⟩ := H2.out
        have hkn := HKN.out
        refine ⟨l1, l2, ⟨H1'.out.grow HB3.out, h3, by omega⟩, ⟨g1.grow HB3.out, g3, by omega⟩, hle, fun k e1 e2 => ⟨by rw [← h2]; exact e1, by rw [← g2]; exact e2⟩, below_then HW2.out HB3.out⟩)
      go_wp2_with fail
      go_meet
      exact ⟨rfl, hs⟩
  case rest =>
    obtain ⟨rfl, HI0⟩ := hcut
    clear CC CA CB H1 H2 H1' HR HI HB1 HB2
    go_upto_region 4 with fail
    go_loopw [5, 6] (fun vx vy wr => Hid (GcdI w.heap.size va vb K w wr vx vy)) (fun _ vy wr => numAt wr vy)
    case atStart => exact HI0
    case round =>
      obtain ⟨X, Y, ⟨x1, x2, x3⟩, ⟨y1, y2, y3⟩, hle, hdv, hbw⟩ := hrel.out
      obtain ⟨AX, cx, rfl, hcx, hdx⟩ := x1.form
      obtain ⟨AY, cy, rfl, hcy, hdy⟩ := y1.form
      have HDV := Lib.hid hdv
      have HBW := Lib.hid hbw
      have HX := Lib.hid (And.intro x1 x2)
      have HY := Lib.hid (And.intro y1 y2)
      by_cases h2 : 2 < Y.length
      · have CS : Hid (Calls Try.prog 129 #[.slice AX X.length cx, .slice AY Y.length cy] wr (RetShort w.heap.size (nv X) (nv Y) X.length wr)) := Lib.hid (nt_shorten w.heap.size AX AY X.length Y.length cx cy X Y wr hbw.size x1 y1 (by omega) x2 y2 hle h2)
        have HM := Lib.hid (numAt_eq (c := cy) hdy rfl)
        have hL : (2 : Int) < (Y.length : Int) := by omega
        clear hdv hbw x1 x2 y1 y2 hcx hdx hcy hdy hrel
        have HLX : Hid (X.length ≤ K) := Lib.hid x3
        go_wp2_with (go_at_call 129; (with_reducible refine CS.out.mono ?_); rintro e5 w5 ⟨v1, L1, v2, L2, rfl, ⟨o1, m1, k1⟩, ⟨o2, m2, k2⟩, ⟨i1, i2, i3⟩, hk, hb5⟩; have HG : Hid (GcdI w.heap.size va vb K w w5 v1 v2) := Lib.hid ⟨L1, L2, ⟨o1, m1, Nat.le_trans k1 HLX.out⟩, ⟨o2, m2, Nat.le_trans k2 HLX.out⟩, i1, fun k e1 e2 => HDV.out k (hk k e1 e2).1 (hk k e1 e2).2, below_then HBW.out hb5⟩; have HM2 : Hid (numAt w5 v2 < numAt wr (.slice AY Y.length cy)) := Lib.hid (gcd_meas o2 i2 HM.out); clear o1 m1 k1 o2 m2 k2 i1 i2 i3 hk hb5)
        go_roundw
        case rel => exact HG
        case measure => exact HM2.out
      · have hL : ¬ (2 : Int) < (Y.length : Int) := by omega
        by_cases h0 : Y = []
        · subst h0
          have HN : Hid (nv X ∣ va ∧ nv X ∣ vb) := Lib.hid (hdv _ (Int.dvd_refl _) (by simp [nv]))
          clear hdv hbw x1 x2 y1 y2 hcx hdx hcy hdy hrel
          go_wp2_with fail
          go_ret
          exact ⟨_, X, rfl, HX.out.1, HN.out, HX.out.2, by omega, HBW.out⟩
        · have CD : Hid (Calls Try.prog 128 #[.slice AX X.length cx, .slice AY Y.length cy] wr (RetQR wr (nv X / nv Y) (nv X % nv Y) X.length Y.length)) := Lib.hid (nt_divide AX AY X.length Y.length cx cy X Y wr hdx hdy rfl rfl hcx hcy (by omega) (by omega) x2 y2 h0)
          have CSY : Hid (∀ w1, Below wr.heap.size wr w1 → Calls Try.prog 130 #[.slice AY Y.length cy] w1 fun e w' => e = .returned (.int .u64 (nv Y)) ∧ Below w1.heap.size w1 w') := Lib.hid fun w1 h => nt_small AY Y.length cy Y w1 (hdy.grow h) rfl (by omega)
          have hyl : Y.length ≠ 0 := by intro e; exact h0 (List.length_eq_zero_iff.1 e)
          have hyl' : (Y.length : Int) ≠ 0 := by omega
          have HYB : Hid (0 ≤ nv Y ∧ nv Y < 18446744073709551616) := Lib.hid (by
            have h1 := nv_lt y1.dig
            have h3 := bp_le (show Y.length ≤ 2 by omega)
            have h4 : bp 2 = 18446744073709551616 := by rw [bp_succ, bp_one]; rfl
            exact ⟨nv_low y1.dig, by omega⟩)
          have hy2 : Y.length ≤ 2 := by omega
          clear hdv hbw x1 x2 y1 y2 hcx hdx hcy hdy hrel
          go_upto_region 9 with (go_at_call 128; (with_reducible refine CD.out.mono ?_); rintro e6 w6 ⟨v1, L1, v2, L2, rfl, -, ⟨o2, n2, m2, k2⟩, hb6⟩; have HB6 := Lib.hid hb6; have H2 := Lib.hid (And.intro o2 (And.intro n2 k2)); clear hb6 o2 n2 m2 k2)
          obtain ⟨A2, c2, rfl, _, hd2⟩ := H2.out.1.form
          have CSR : Hid (∀ w1, Below w6.heap.size w6 w1 → Calls Try.prog 130 #[.slice A2 L2.length c2] w1 fun e w' => e = .returned (.int .u64 (nv L2)) ∧ Below w1.heap.size w1 w') := Lib.hid fun w1 h => nt_small A2 L2.length c2 L2 w1 (hd2.grow h) rfl (by have := H2.out.2.2; omega)
          have HRB : Hid ((0 ≤ nv L2 ∧ nv L2 < 18446744073709551616) ∧ nv L2 = nv X % nv Y) := Lib.hid (by
            have h1 := nv_lt H2.out.1.dig
            have h3 := bp_le (show L2.length ≤ 2 by have := H2.out.2.2; omega)
            have h4 : bp 2 = 18446744073709551616 := by rw [bp_succ, bp_one]; rfl
            exact ⟨⟨nv_low H2.out.1.dig, by omega⟩, H2.out.2.1⟩)
          clear hd2
          go_upto_region 10 with (go_at_call 130; first
            | ((with_reducible refine (CSY.out _ HB6.out).mono ?_); rintro e7 w7 ⟨rfl, hb7⟩; have HB7 := Lib.hid hb7; clear hb7)
            | ((with_reducible refine (CSR.out _ HB7.out).mono ?_); rintro e8 w8 ⟨rfl, hb8⟩; have HB8 := Lib.hid hb8; clear hb8))
          have HW8 := Lib.hid (below_then (below_then (below_then HBW.out HB6.out) HB7.out) HB8.out)
          go_loopw [9, 10] (fun vp vq wl => ∃ p q : Int, vp = .int .u64 p ∧ vq = .int .u64 q ∧ (0 ≤ p ∧ p < 18446744073709551616) ∧ (0 ≤ q ∧ q < 18446744073709551616) ∧ Hid (∀ k : Int, k ∣ p → k ∣ q → k ∣ va ∧ k ∣ vb) ∧ Hid (Below w.heap.size w wl)) (fun _ vq _ => (intOf vq).toNat)
          case atStart => exact ⟨nv Y, nv L2, rfl, rfl, HYB.out, HRB.out.1, Lib.hid (fun k e1 e2 => HDV.out k (dvd_mod e1 (by rw [← HRB.out.2]; exact e2)) e1), HW8⟩
          case round =>
            obtain ⟨p, q, rfl, rfl, ⟨p1, p2⟩, ⟨q1, q2⟩, HK, HBL⟩ := hrel
            by_cases hq0 : q = 0
            · subst hq0
              have HN := Lib.hid (HK.out p (Int.dvd_refl p) (Int.dvd_zero p))
              have z1 : 0 ≤ p % 4294967296 ∧ p % 4294967296 < 4294967296 := by omega
              have z2 : 0 ≤ p / 4294967296 ∧ p / 4294967296 < 4294967296 := by omega
              have ho := (digA_two (w := wr) z1 z2).base (base' := w.heap.size) HBL.out.size
              have hb := (Below.refl wr.heap.size wr).alloc (Nat.le_refl _) (.cells #[.int .u32 (p % 4294967296), .int .u32 (p / 4294967296)] 77)
              have CC : Hid (Calls Try.prog 115 #[.slice (some ⟨wr.heap.size, 0, none⟩) 2 2] (wr.alloc (.cells #[.int .u32 (p % 4294967296), .int .u32 (p / 4294967296)] 77)) (RetCut (wr.alloc (.cells #[.int .u32 (p % 4294967296), .int .u32 (p / 4294967296)] 77)) (some ⟨wr.heap.size, 0, none⟩) 2 [p % 4294967296, p / 4294967296])) := Lib.hid (nt_cut _ _ _ _ _ ho.digA rfl (Nat.le_refl _) (by omega))
              have HO := Lib.hid ho
              have HB9 := Lib.hid (below_then HBL.out hb)
              have HP : Hid (nv [p % 4294967296, p / 4294967296] = p) := Lib.hid (by simp only [nv]; omega)
              clear ho hb
              go_wp2_with (go_at_call 115; (with_reducible refine CC.out.mono ?_); intro e9 w9 h9'; have H9 := Lib.hid (RetCut.toN HO.out HB9.out h9'); obtain ⟨k9, _, rfl, hb9⟩ := h9')
              go_ret
              obtain ⟨v, l, e, o, hn, hnr, hk, hbb⟩ := H9.out
              rw [HP.out] at hn
              injection e with e
              subst e
              exact ⟨_, l, rfl, o, by rw [hn]; exact HN.out, hnr, by omega, hbb⟩
            · have hq' : (q == 0) = false := by simp [hq0]
              have r1 := Int.emod_nonneg p hq0
              have r2 := Int.emod_lt_of_pos p (show 0 < q by omega)
              have HR := Lib.hid (And.intro r1 r2)
              go_upto_region 11 with fail
              go_quiet (fail)
              have HBD : Hid (Below w.heap.size w (wr.drewN nq)) := Lib.hid (below_drewN HBL.out _)
              generalize wr.drewN nq = wd at HBD ⊢
              go_wp2_with fail
              go_roundw
              case rel => exact ⟨q, p % q, rfl, rfl, ⟨q1, q2⟩, ⟨HR.out.1, by have := HR.out.2; omega⟩, Lib.hid (fun k e1 e2 => HK.out k (dvd_mod e1 e2) e1), HBD⟩
              case measure => simp [intOf]; omega
end Go.Proofs.Ytmdfgidejdiiiaa
end
section
namespace Go.Proofs.Ytmdfgidejdiiiaa
open Go.RowKit
def Lifts (w : World) (A : Option Addr) (ls : List Lft) : Prop :=
  ∀ k s, ls[k]? = some s → ∃ ad C c, A = some ad ∧ ad.block < w.heap.size ∧ w.cell? (ad.add (k * 4)) = some (.bool s.1) ∧ w.cell? ⟨(ad.add (k * 4)).block, (ad.add (k * 4)).off + 1, none⟩ = some (.int .i64 s.2.1) ∧
    w.cell? ⟨(ad.add (k * 4)).block, (ad.add (k * 4)).off + 2, none⟩ = some (.slice C s.2.2.1.length c) ∧ w.cell? ⟨(ad.add (k * 4)).block, (ad.add (k * 4)).off + 3, none⟩ = some (.int .i64 s.2.2.2) ∧ Ints w C s.2.2.1 ∧ I64 s.2.1 ∧ I64 s.2.2.2
theorem Lifts.nil {w : World} {A : Option Addr} : Lifts w A [] := fun k s h => by simp at h
theorem Lifts.grow {w w' : World} {A : Option Addr} {ls : List Lft} (h : Lifts w A ls) (hb : Below w.heap.size w w') : Lifts w' A ls := fun k s hk => by
  obtain ⟨ad, C, c, e, h1, c0, c1, c2, c3, hi, i1, i2⟩ := h k s hk
  exact ⟨ad, C, c, e, Nat.lt_of_lt_of_le h1 hb.size, (hb.cell (by rw [block_add]; exact h1)).trans c0, (hb.cell (by show (ad.add _).block < _; rw [block_add]; exact h1)).trans c1, (hb.cell (by show (ad.add _).block < _; rw [block_add]; exact h1)).trans c2, (hb.cell (by show (ad.add _).block < _; rw [block_add]; exact h1)).trans c3, hi.grow hb, i1, i2⟩
def cfB (x : Int) : Bool := inB x (-4096) 4096
def headB (s : Lft) : Bool := decide (s.2.2.1.length ≤ 8) && (inB s.2.2.2 0 20 && inB s.2.1 (-8) 8)
def lftB (s : Lft) : Bool := headB s && s.2.2.1.all cfB
def lftsB (ls : List Lft) : Bool := decide (ls.length ≤ 12) && ls.all lftB
theorem lftB_ok {s : Lft} (h : lftB s = true) : LftOk s := by
  unfold lftB headB at h
  simp only [Bool.and_eq_true, decide_eq_true_eq, inB_iff] at h
  obtain ⟨⟨h1, ⟨h2, h3⟩, h4, h5⟩, h6⟩ := h
  exact ⟨h1, h2, h3, h4, h5, fun x hx => inB_iff.1 (List.all_eq_true.1 h6 x hx)⟩
theorem lfts_ok {ls : List Lft} (h : lftsB ls = true) : ls.length ≤ 12 ∧ ∀ s ∈ ls, LftOk s := by
  unfold lftsB at h
  rw [Bool.and_eq_true, decide_eq_true_eq] at h
  exact ⟨h.1, fun s hs => lftB_ok (List.all_eq_true.1 h.2 s hs)⟩
theorem lfts_no {ls : List Lft} {k : Nat} {s : Lft} (hk : ls[k]? = some s) (h : lftB s = false) : lftsB ls = false := by
  unfold lftsB; rw [all_no hk h, Bool.and_false]
theorem head_iff {s : Lft} : headB s = true ↔ s.2.2.1.length ≤ 8 ∧ (0 ≤ s.2.2.2 ∧ s.2.2.2 ≤ 20) ∧ -8 ≤ s.2.1 ∧ s.2.1 ≤ 8 := by
  unfold headB; simp only [Bool.and_eq_true, decide_eq_true_eq, inB_iff]
set_option maxRecDepth 100000 in
set_option maxHeartbeats 2000000 in
theorem bk_Valid (A : Option Addr) (ls : List Lft) (c : Nat) (w : World) (h : Lifts w A ls) (hl : ls.length ≤ 1000000) (hl2 : ∀ s ∈ ls, s.2.2.1.length ≤ 9223372036854775807) :
    Calls Try.prog 23 #[.slice A ls.length c] w fun e w' => e = .returned (.bool (lftsB ls)) ∧ Below w.heap.size w w' := by
  by_cases hl12 : 12 < ls.length
  · have hf : lftsB ls = false := by unfold lftsB; rw [decide_eq_false (by omega), Bool.false_and]
    have HF := Lib.hid hf
    clear hf
    go_enter Try.func23, Try.ntmps23
    go_wp2
    all_goals try (exfalso; omega)
    all_goals go_ret
    all_goals exact ⟨ret_bool HF.out.symm, Below.refl _ _⟩
  · have hl3 : ls.length ≤ 12 := by omega
    have HL2 := Lib.hid hl2
    clear hl2
    go_enter Try.func23, Try.ntmps23
    go_wp2
    all_goals try (exfalso; omega)
    go_loopw [12] (fun i wr => ∃ k : Nat, k ≤ ls.length ∧ i = .int .i64 k ∧ Hid ((ls.take k).all lftB = true) ∧ Below w.heap.size w wr) (fun i _ => ls.length - (intOf i).toNat)
    case atStart => exact ⟨0, Nat.zero_le _, rfl, rfl, Below.refl _ _⟩
    case round =>
      obtain ⟨k, hk, rfl, HA, hb⟩ := hrel
      by_cases hlt : k < ls.length
      · obtain ⟨s, hs⟩ : ∃ s, ls[k]? = some s := ⟨_, List.getElem?_eq_getElem hlt⟩
        obtain ⟨ad, C, cc, rfl, hba, c0, c1, c2, c3, hi, i1, i2⟩ := (h.grow hb) k s hs
        have HSU := Lib.hid (take_succ_all hs lftB)
        have HNO := Lib.hid (fun q => lfts_no hs q)
        have hcl := HL2.out s (List.mem_of_getElem? hs)
        obtain ⟨o, st, cf, sh⟩ := s
        simp only at c0 c1 c2 c3 hi i1 i2 hcl
        clear hs
        rcases Bool.eq_false_or_eq_true (headB (o, st, cf, sh)) with hh | hh
        · obtain ⟨g1, ⟨g2, g3⟩, g4, g5⟩ := head_iff.1 hh
          simp only at g1 g2 g3 g4 g5
          have HH := Lib.hid hh
          have hi2 := fun x => hi.grow (Below.alloc (Below.refl wr.heap.size wr) (Nat.le_refl _) x)
          have HI2 := Lib.hid hi2
          have hb2 := fun x => Below.alloc hb hb.size x
          have HB2 := Lib.hid hb2
          clear hh hi hi2 hb hb2
          go_wp2
          all_goals try (exfalso; omega)
          go_loop [6, 41] (fun _ i => ∃ j : Nat, j ≤ cf.length ∧ i = .int .i64 j ∧ Hid ((cf.take j).all cfB = true)) (fun _ i => cf.length - (intOf i).toNat)
          case atStart => exact ⟨0, Nat.zero_le _, rfl, rfl⟩
          case round =>
            obtain ⟨j, hj, rfl, HC⟩ := hrel
            by_cases hlt2 : j < cf.length
            · obtain ⟨ad2, x, rfl, hbx, hx, cx, x1, x2⟩ := (HI2.out (.cells #[.bool o, .int .i64 st, .slice C cf.length cc, .int .i64 sh] 64)).at_ hlt2
              have HS2 := Lib.hid (take_succ_all hx cfB)
              have HN2 := Lib.hid (all_no hx (p := cfB))
              clear hx
              rcases Bool.eq_false_or_eq_true (cfB x) with hin | hin
              · obtain ⟨y1, y2⟩ := inB_iff.1 hin
                have HIN := Lib.hid hin
                clear hin
                go_wp2
                all_goals try (exfalso; omega)
                go_round
                case rel => exact ⟨j + 1, by omega, by go_num, by show _ = _; rw [HS2.out, HC.out, HIN.out]; rfl⟩
                case measure => simp [intOf]; omega
              · have y1 := inB_no.1 hin
                have HIN := Lib.hid hin
                clear hin
                go_wp2
                all_goals try (exfalso; omega)
                all_goals go_ret
                all_goals exact ⟨ret_bool (HNO.out (by unfold lftB; rw [HN2.out HIN.out, Bool.and_false])).symm, HB2.out _⟩
            · obtain rfl : j = cf.length := by omega
              go_wp2
              all_goals try (exfalso; omega)
              go_roundw
              case rel => exact ⟨k + 1, by omega, by go_num, by show _ = _; rw [HSU.out, HA.out]; unfold lftB; rw [HH.out]; have := HC.out; rw [List.take_length] at this; rw [this]; rfl, HB2.out _⟩
              case measure => simp [intOf]; omega
        · have hno : ¬ (cf.length ≤ 8 ∧ (0 ≤ sh ∧ sh ≤ 20) ∧ -8 ≤ st ∧ st ≤ 8) := fun hc => by
            have := (head_iff (s := (o, st, cf, sh))).2 hc
            rw [hh] at this; cases this
          have HH := Lib.hid hh
          clear hh
          go_wp2
          all_goals try (exfalso; omega)
          all_goals go_ret
          all_goals exact ⟨ret_bool (HNO.out (by unfold lftB; rw [HH.out]; rfl)).symm, hb.alloc hb.size _⟩
      · obtain rfl : k = ls.length := by omega
        go_wp2
        all_goals try (exfalso; omega)
        go_ret
        exact ⟨ret_bool (by unfold lftsB; have := HA.out; rw [List.take_length] at this; rw [this, decide_eq_true hl3]; rfl), hb⟩
end Go.Proofs.Ytmdfgidejdiiiaa
end
section
namespace Go.Proofs.Ytmdfgidejdiiiaa
open Go.RowKit
def prN (l : List Int) (k : Nat) : List Int := (List.range l.length).map fun i => if i < k then el l i else 0
theorem prN_length (l : List Int) (k : Nat) : (prN l k).length = l.length := by simp [prN]
theorem prN_get {l : List Int} {k i : Nat} (h : i < l.length) : (prN l k)[i]? = some (if i < k then el l i else 0) := by
  simp only [prN, List.getElem?_map, List.getElem?_range h]; rfl
theorem prN_zero (l : List Int) : prN l 0 = List.replicate l.length 0 := by
  refine list_ext (by rw [prN_length]; simp) fun i hi => ?_
  rw [prN_length] at hi
  rw [el_of (prN_get hi), if_neg (by omega)]
  unfold el; rw [List.getElem?_replicate, if_pos hi]; rfl
theorem prN_all (l : List Int) : prN l l.length = l := by
  refine list_ext (prN_length _ _) fun i hi => ?_
  rw [prN_length] at hi
  rw [el_of (prN_get hi), if_pos hi]
theorem prN_at {l : List Int} {k : Nat} (h : k < l.length) : (prN l k)[k]? = some 0 := by rw [prN_get h, if_neg (by omega)]
theorem prN_succ {l : List Int} {k : Nat} (h : k < l.length) : prN l (k + 1) = (prN l k).set k (el l k) := by
  apply List.ext_getElem?
  intro n
  rw [List.getElem?_set, prN_length]
  rcases Nat.lt_or_ge n l.length with hn | hn
  · rw [prN_get hn, prN_get hn]
    by_cases e : k = n
    · subst e; rw [if_pos rfl, if_pos h, if_pos (by omega)]
    · rw [if_neg e]
      congr 1
      by_cases h1 : n < k
      · rw [if_pos h1, if_pos (by omega)]
      · rw [if_neg h1, if_neg (by omega)]
  · rw [if_neg (by omega), List.getElem?_eq_none (by rw [prN_length]; exact hn), List.getElem?_eq_none (by rw [prN_length]; exact hn)]
theorem ana_succ {ls : List Lft} {k : Nat} {s : Lft} (h : ls[k]? = some s) (p : List Int × List Int) : anaF (ls.take (k + 1)) p = lift1 1 (anaF (ls.take k) p) s := by
  unfold anaF
  rw [take_snoc' h, List.foldl_append]; rfl
theorem I64.w32 {l : List Int} (h : W32 l) {x : Int} (hx : x ∈ l) : I64 x := by have := h x hx; exact ⟨by omega, by omega⟩
theorem Own.kept {base : Nat} {w w' : World} {v : Value} {l : List Int} {r : Option Nat} (h : Own base w v l) (hg : w.grownBy w' r) (hne : v.ownBlock = none ∨ v.ownBlock ≠ r) : Own base w' v l := ⟨h.1.kept hg hne, h.2⟩
theorem Own.ints {base : Nat} {w : World} {A : Option Addr} {n c : Nat} {l : List Int} (h : Own base w (.slice A n c) l) : Ints w A l := by
  obtain ⟨A', c', e, _, hi⟩ := h.form
  injection e with e
  rw [e]; exact hi
theorem Own.len {base : Nat} {w : World} {A : Option Addr} {n c : Nat} {l : List Int} (h : Own base w (.slice A n c) l) : n = l.length := by
  obtain ⟨A', c', e, _, _⟩ := h.form
  injection e
theorem Own.other {base : Nat} {w : World} {g g' k n c : Nat} {l : List Int} {u : Value} (h : Own base w (.slice (some ⟨g, 0, none⟩) n c) l) (hne : g ≠ g') : Own base (w.setCell ⟨g', k, none⟩ u) (.slice (some ⟨g, 0, none⟩) n c) l :=
  h.kept (grown_set (grown_refl w (some g'))) (.inr (by show some g ≠ some g'; intro e; injection e with e; exact hne e))
theorem Own.kept_at {base : Nat} {w w' : World} {g g' n c : Nat} {l : List Int} (h : Own base w (.slice (some ⟨g, 0, none⟩) n c) l) (hg : w.grownBy w' (some g')) (hne : g ≠ g') : Own base w' (.slice (some ⟨g, 0, none⟩) n c) l :=
  h.kept hg (.inr (by show some g ≠ some g'; intro e; injection e with e; exact hne e))
def Ret2 (w : World) (a b : List Int) (e : Ending) (w' : World) : Prop := ∃ v1 v2, e = .returned (.tuple #[v1, v2]) ∧ Own w.heap.size w' v1 a ∧ Own w.heap.size w' v2 b ∧ Below w.heap.size w w'
set_option maxRecDepth 100000 in
set_option maxHeartbeats 2000000 in
theorem bk_analyse (A B : Option Addr) (ls : List Lft) (x : List Int) (c d h : Nat) (w : World) (hL : Lifts w A ls) (hx : Ints w B x) (hok : ∀ s ∈ ls, LftOk s) (hll : ls.length ≤ 12) (hxl : x.length = 2 * h) (hh : h ≤ 2048) (hw : W32 x) :
    Calls Try.prog 67 #[.slice A ls.length c, .slice B x.length d] w (Ret2 w (analyseF ls x).1 (analyseF ls x).2) := by
  have HOK := Lib.hid hok
  have HXL := Lib.hid hxl
  have l1 : (x.length : Int) / 2 = (h : Int) := by omega
  have l3 : (x.length : Int) ≤ 2 * h := by omega
  have l4 : 2 * (h : Int) ≤ x.length := by omega
  have HE1 := Lib.hid (ev_length hxl)
  have HE2 := Lib.hid (od_length hxl)
  have HW := Lib.hid hw
  have hn1 : h ≤ 100000000 := by omega
  clear hok hw hxl
  go_enter Try.func67, Try.ntmps67
  go_wp2_with (first
    | (at_make; refine mk_int rfl _ _ rfl w.heap.size h rfl rfl rfl hn1 (Nat.le_refl _) ?_; intro w1 ho1 hb1)
    | (at_make; refine mk_int rfl _ _ rfl w.heap.size h rfl rfl rfl hn1 hb1.size ?_; intro w2 ho2 hb2))
  have hlt := ho1.block.2
  have ho1 := ho1.grow hb2
  have hg2 : w1.heap.size < w2.heap.size := ho2.block.2
  have hb := below_then hb1 hb2
  have ho1' : Own w.heap.size w2 (.slice (some ⟨w.heap.size, 0, none⟩) h h) (prN (evF x) 0) := by rw [prN_zero, HE1.out]; exact ho1
  have ho2' : Own w.heap.size w2 (.slice (some ⟨w1.heap.size, 0, none⟩) h h) (prN (odF x) 0) := by rw [prN_zero, HE2.out]; exact ho2
  have hne1 : w.heap.size ≠ w1.heap.size := by omega
  have hne2 : w1.heap.size ≠ w.heap.size := by omega
  clear ho1 ho2 hb1 hb2
  go_loopw [21] (fun i wr => ∃ k : Nat, k ≤ h ∧ i = .int .i64 k ∧ Own w.heap.size wr (.slice (some ⟨w.heap.size, 0, none⟩) h h) (prN (evF x) k) ∧ Own w.heap.size wr (.slice (some ⟨w1.heap.size, 0, none⟩) h h) (prN (odF x) k) ∧ Below w.heap.size w wr) (fun i _ => h - (intOf i).toNat)
  case atStart => exact ⟨0, Nat.zero_le _, rfl, ho1', ho2', hb⟩
  case round =>
    obtain ⟨k, hk, rfl, h1, h2, hbw⟩ := hrel
    by_cases hk2 : k < h
    · have hxr := hx.grow hbw
      obtain ⟨ad, y, rfl, hba, hy, cy, y1, y2⟩ := hxr.at_ (k := 2 * k) (by have := HXL.out; omega)
      obtain ⟨ad2, z, e2, hbz, hz, cz, z1, z2⟩ := hxr.at_ (k := 2 * k + 1) (by have := HXL.out; omega)
      injection e2 with e2
      subst e2
      have HS1 : Hid (prN (evF x) (k + 1) = (prN (evF x) k).set k y) := by show _ = _; rw [prN_succ (by rw [HE1.out]; exact hk2), el_ev, el_of hy]
      have HS2 : Hid (prN (odF x) (k + 1) = (prN (odF x) k).set k z) := by show _ = _; rw [prN_succ (by rw [HE2.out]; exact hk2), el_od, el_of hz]
      have c1 := h1.cell (prN_at (by rw [HE1.out]; exact hk2))
      have c2 := h2.cell (prN_at (by rw [HE2.out]; exact hk2))
      have f1 := h1.free k
      have f2 := h2.free k
      obtain ⟨m, hm⟩ : ∃ m, 2 * k = m := ⟨_, rfl⟩
      have e1 : IntKind.i64.wrap (2 * (k : Int)) = (m : Int) := by rw [← hm, IntWalk.i64_in _ (by omega)]; simp
      have e2 : IntKind.i64.wrap ((m : Int) + 1) = (m : Int) + 1 := IntWalk.i64_in _ (by omega)
      have e3 : (0 : Int) ≤ (m : Int) + 1 := by omega
      have e4 : (m : Int) + 1 < (x.length : Int) := by have := HXL.out; omega
      have e5 : (m : Int) < (x.length : Int) := by omega
      have e6 : ((m : Int) + 1).toNat = m + 1 := by omega
      have e7 : (k : Int) < (h : Int) := by omega
      have e8 : (0 : Int) ≤ (k : Int) := by omega
      rw [hm] at cy cz
      have cz2 : wr.cell? ⟨ad.block, ad.off + (m + 1), none⟩ = some (.int .i64 z) := by have := cz; unfold Addr.add at this; simpa using this
      clear hy hz hxr hm
      have H1 := Lib.hid h1
      have H2 := Lib.hid h2
      clear h1 h2
      go_wp2
      go_region
      clear e1 e2 e3 e4 e5 e6 e7 e8 cz2
      go_wp2
      go_roundw
      case rel =>
        refine ⟨k + 1, by omega, by go_num, ?_, ?_, ?_⟩
        · rw [HS1.out]; exact ⟨((H1.out.set k ⟨y1, y2⟩).other hne1).1.drew, ((H1.out.set k ⟨y1, y2⟩).other hne1 (k := k) (u := .int .i64 z)).2⟩
        · rw [HS2.out]; exact ⟨((H2.out.other hne2).set k ⟨z1, z2⟩).1.drew, ((H2.out.other hne2 (k := k) (u := .int .i64 y)).set k ⟨z1, z2⟩).2⟩
        · exact (below_set (below_set hbw (Nat.le_refl _)) (by omega)).drew
      case measure => simp [intOf]; omega
    · obtain rfl : k = h := by omega
      have h1' : Own w.heap.size wr (.slice (some ⟨w.heap.size, 0, none⟩) k k) (anaF (ls.take 0) (evF x, odF x)).1 := by
        have e := prN_all (evF x); rw [HE1.out] at e; rw [e] at h1; exact h1
      have h2' : Own w.heap.size wr (.slice (some ⟨w1.heap.size, 0, none⟩) k k) (anaF (ls.take 0) (evF x, odF x)).2 := by
        have e := prN_all (odF x); rw [HE2.out] at e; rw [e] at h2; exact h2
      clear h1 h2
      go_wp2
      go_loopw [44] (fun i wr => ∃ q : Nat, q ≤ ls.length ∧ i = .int .i64 q ∧ Own w.heap.size wr (.slice (some ⟨w.heap.size, 0, none⟩) k k) (anaF (ls.take q) (evF x, odF x)).1 ∧ Own w.heap.size wr (.slice (some ⟨w1.heap.size, 0, none⟩) k k) (anaF (ls.take q) (evF x, odF x)).2 ∧ Below w.heap.size w wr) (fun i _ => ls.length - (intOf i).toNat)
      case atStart => exact ⟨0, Nat.zero_le _, rfl, h1', h2', hbw⟩
      case round =>
        obtain ⟨q, hq, rfl, hf1, hf2, hbr⟩ := hrel
        by_cases hq2 : q < ls.length
        · obtain ⟨s, hs⟩ : ∃ s, ls[q]? = some s := ⟨_, List.getElem?_eq_getElem hq2⟩
          obtain ⟨ad, C, cc, rfl, hba, c0, c1, c2, c3, hi, i1, i2⟩ := hL q s hs
          have hcb := fun (hc : s.2.2.1 ≠ []) (a : Addr) (e : C = some a) => hi.block hc e
          have c0 := (hbr.cell (by rw [block_add]; exact hba)).trans c0
          have c1 := (hbr.cell (p := ⟨(ad.add (q * 4)).block, (ad.add (q * 4)).off + 1, none⟩) (by show (ad.add _).block < _; rw [block_add]; exact hba)).trans c1
          have c2 := (hbr.cell (p := ⟨(ad.add (q * 4)).block, (ad.add (q * 4)).off + 2, none⟩) (by show (ad.add _).block < _; rw [block_add]; exact hba)).trans c2
          have c3 := (hbr.cell (p := ⟨(ad.add (q * 4)).block, (ad.add (q * 4)).off + 3, none⟩) (by show (ad.add _).block < _; rw [block_add]; exact hba)).trans c3
          have hi := hi.grow hbr
          have HSU := Lib.hid (ana_succ hs (evF x, odF x))
          have HLO := Lib.hid (HOK.out s (List.mem_of_getElem? hs))
          have w32 : W32 (anaF (ls.take q) (evF x, odF x)).1 ∧ W32 (anaF (ls.take q) (evF x, odF x)).2 := w32_fold 1 (ls.take q) (evF x, odF x) ⟨w32_ev HW.out, w32_od HW.out⟩
          have W32F := Lib.hid w32
          have hln := fold_length 1 (ls.take q) (evF x, odF x)
          obtain ⟨a, ha⟩ : ∃ a, (anaF (ls.take q) (evF x, odF x)).1 = a := ⟨_, rfl⟩
          obtain ⟨b, hbb⟩ : ∃ b, (anaF (ls.take q) (evF x, odF x)).2 = b := ⟨_, rfl⟩
          have la : a.length = k := by rw [← ha]; exact hln.1.trans HE1.out
          have lb : b.length = k := by rw [← hbb]; exact hln.2.trans HE2.out
          have hab : anaF (ls.take q) (evF x, odF x) = (a, b) := by rw [← ha, ← hbb]
          rw [ha] at hf1
          rw [hbb] at hf2
          rw [ha, hbb] at W32F
          rw [hab] at HSU
          obtain ⟨o, st, cf, sh⟩ := s
          simp only at c0 c1 c2 c3 hi i1 i2 hcb
          have hch1 : ∀ (W : World), Own w.heap.size W (.slice (some ⟨w.heap.size, 0, none⟩) k k) a → Own w.heap.size W (.slice (some ⟨w1.heap.size, 0, none⟩) k k) b → Ints W C cf →
              Calls Try.prog 105 #[.agg #[.bool o, .int .i64 st, .slice C cf.length cc, .int .i64 sh], .slice (some ⟨w.heap.size, 0, none⟩) k k, .slice (some ⟨w1.heap.size, 0, none⟩) k k, .int .i64 1] W
                fun e w' => e = .returned (.tuple #[]) ∧ Own w.heap.size w' (.slice (some ⟨w.heap.size, 0, none⟩) k k) (stF (o, st, cf, sh) 1 a b) ∧ W.grownBy w' (some w.heap.size) := fun W q1 q2 q3 => by
            have := bk_change o st sh 1 C (some ⟨w1.heap.size, 0, none⟩) cf b a cc k k k w.heap.size w.heap.size W HLO.out (.inl rfl) la.symm (by omega) (by omega) W32F.out.1 W32F.out.2 q1 q3 q2.ints (fun hc ad e => by have := hcb hc ad e; omega) (fun _ ad e => by injection e with e; subst e; exact hne2)
            rw [lb] at this; exact this
          have hch2 : ∀ (W : World), Own w.heap.size W (.slice (some ⟨w.heap.size, 0, none⟩) k k) a → Own w.heap.size W (.slice (some ⟨w1.heap.size, 0, none⟩) k k) b → Ints W C cf →
              Calls Try.prog 105 #[.agg #[.bool o, .int .i64 st, .slice C cf.length cc, .int .i64 sh], .slice (some ⟨w1.heap.size, 0, none⟩) k k, .slice (some ⟨w.heap.size, 0, none⟩) k k, .int .i64 1] W
                fun e w' => e = .returned (.tuple #[]) ∧ Own w.heap.size w' (.slice (some ⟨w1.heap.size, 0, none⟩) k k) (stF (o, st, cf, sh) 1 b a) ∧ W.grownBy w' (some w1.heap.size) := fun W q1 q2 q3 => by
            have := bk_change o st sh 1 C (some ⟨w.heap.size, 0, none⟩) cf a b cc k k k w1.heap.size w.heap.size W HLO.out (.inl rfl) lb.symm (by omega) (by omega) W32F.out.2 W32F.out.1 q2 q3 q1.ints (fun hc ad e => by have := hcb hc ad e; omega) (fun _ ad e => by injection e with e; subst e; exact hne1)
            rw [la] at this; exact this
          have HCH1 := Lib.hid hch1
          have HCH2 := Lib.hid hch2
          have hal := fun o => Below.alloc (Below.refl wr.heap.size wr) (Nat.le_refl _) o
          have hf1a := fun o => hf1.grow (hal o)
          have hf2a := fun o => hf2.grow (hal o)
          have hia := fun o => hi.grow (hal o)
          have hbra := fun o => below_then hbr (hal o)
          have F1 := Lib.hid hf1a
          have F2 := Lib.hid hf2a
          have FI := Lib.hid hia
          have FB := Lib.hid hbra
          have hwb : w1.heap.size < wr.heap.size := hf2.block.2
          clear hs ha hbb hab hf1 hf2 hi hcb hch1 hch2 hal hf1a hf2a hia hbra hbr hln w32
          cases o
          · go_wp2_with (go_at_call 105; refine (HCH1.out _ (F1.out _) (F2.out _) (FI.out _)).mono ?_; rintro e w3 ⟨rfl, ho3, hg3⟩)
            go_roundw
            case rel => exact ⟨q + 1, by omega, by go_num, by rw [HSU.out]; exact ho3, by rw [HSU.out]; exact (F2.out _).kept_at hg3 hne2, grown_to (FB.out _) hg3 (Nat.le_refl _)⟩
            case measure => simp [intOf]; omega
          · go_wp2_with (go_at_call 105; refine (HCH2.out _ (F1.out _) (F2.out _) (FI.out _)).mono ?_; rintro e w3 ⟨rfl, ho3, hg3⟩)
            go_roundw
            case rel => exact ⟨q + 1, by omega, by go_num, by rw [HSU.out]; exact (F1.out _).kept_at hg3 hne1, by rw [HSU.out]; exact ho3, grown_to (FB.out _) hg3 (by omega)⟩
            case measure => simp [intOf]; omega
        · obtain rfl : q = ls.length := by omega
          rw [List.take_length] at hf1 hf2
          go_wp2
          go_ret2
          exact ⟨_, _, rfl, hf1, hf2, hbr⟩
end Go.Proofs.Ytmdfgidejdiiiaa
end
section
namespace Go.Proofs.Ytmdfgidejdiiiaa
open Go.RowKit
theorem Own.empty {w : World} {g : Nat} (hg : g = w.heap.size) : Own g (w.alloc (.cells #[] 3)) (.slice (some ⟨g, 0, none⟩) 0 0) [] := by
  subst hg
  refine ⟨⟨rfl, .inr ⟨w.heap.size, 0, #[], rfl, Nat.le_refl _, heap_alloc_new w _, Nat.le_refl _, by simp, by simp, by simp⟩⟩, by simp⟩
end Go.Proofs.Ytmdfgidejdiiiaa
end
