/- Several texts in one: R1 R2. -/
import Derived.Test.YtmdfgidejdiiiaadV4toV6
import Derived.Test.YtmdfgidejdiiiaadV7toZt
import Derived.BigQuiet
set_option linter.unusedVariables false
set_option linter.unusedSimpArgs false
section
namespace Go.Proofs.Ytmdfgidejdiiiaa
open Go.RowKit
set_option maxRecDepth 100000 in
theorem r33_wide (A : Option Addr) (l : List Int) (c : Nat) (w : World) (hl : l.length ≤ 9223372036854775807) (h : Ints w A l) :
    Calls Try.prog 68 #[.slice A l.length c] w fun e w' => e = .returned (.bool (l.all wB)) ∧ w = w' := by
  go_enter Try.func68, Try.ntmps68
  go_wp2
  go_loop [3] (fun i => ∃ k : Nat, k ≤ l.length ∧ i = .int .i64 k ∧ (l.take k).all wB = true) (fun i => l.length - (intOf i).toNat)
  case atStart => exact ⟨0, Nat.zero_le _, rfl, rfl⟩
  case round =>
    obtain ⟨k, hk, rfl, hall⟩ := hrel
    by_cases hlt : k < l.length
    · obtain ⟨ad, x, rfl, hb, hx, hc, i1, i2⟩ := h.at_ hlt
      have hs := take_succ_all hx wB
      have hno := all_no hx (p := wB)
      have HS := Lib.hid hs
      have HN := Lib.hid hno
      have HA := Lib.hid hall
      have HX := Lib.hid hx
      clear hs hno hall hx h
      rcases Bool.eq_false_or_eq_true (inB x (-2147483648) 2147483647) with hin | hin
      · go_wp2_with (go_at_call 72; refine (rf_In _ _ _ _).mono ?_; rintro e w' ⟨rfl, rfl⟩)
        go_round
        case rel => exact ⟨k + 1, by omega, by go_num, by rw [HS.out, HA.out, show wB x = true from hin]; rfl⟩
        case measure => simp [intOf]; omega
      · go_wp2_with (go_at_call 72; refine (rf_In _ _ _ _).mono ?_; rintro e w' ⟨rfl, rfl⟩)
        go_ret
        exact ⟨ret_bool (HN.out hin).symm, rfl⟩
    · go_wp2
      go_ret
      exact ⟨ret_bool (by rw [List.take_of_length_le (by omega)] at hall; exact hall.symm), rfl⟩
theorem headB_parts {o : Bool} {st sh : Int} {cf : List Int} (h : headB (o, st, cf, sh) = true) : cf.length ≤ 8 ∧ inB sh 0 20 = true ∧ inB st (-8) 8 = true := by
  unfold headB at h
  rw [Bool.and_eq_true, Bool.and_eq_true] at h
  exact ⟨of_decide_eq_true h.1, h.2.1, h.2.2⟩
set_option maxRecDepth 100000 in
set_option maxHeartbeats 2000000 in
theorem r33_Valid (A : Option Addr) (ls : List Lft) (c : Nat) (w : World) (h : Lifts w A ls) (hl : ls.length ≤ 1000000) (hl2 : ∀ s ∈ ls, s.2.2.1.length ≤ 9223372036854775807) :
    Calls Try.prog 24 #[.slice A ls.length c] w fun e w' => e = .returned (.bool (lftsB ls)) ∧ w = w' := by
  by_cases hl12 : 12 < ls.length
  · have hf : lftsB ls = false := by unfold lftsB; rw [decide_eq_false (by omega), Bool.false_and]
    have HF := Lib.hid hf
    clear hf
    go_enter Try.func24, Try.ntmps24
    go_wp2
    all_goals try (exfalso; omega)
    all_goals go_ret
    all_goals exact ⟨ret_bool HF.out.symm, rfl⟩
  · have hl3 : ls.length ≤ 12 := by omega
    have HL2 := Lib.hid hl2
    clear hl2
    go_enter Try.func24, Try.ntmps24
    go_wp2
    all_goals try (exfalso; omega)
    go_loop [3, 4] (fun i _ => ∃ k : Nat, k ≤ ls.length ∧ i = .int .i64 k ∧ Hid ((ls.take k).all lftB = true)) (fun i _ => ls.length - (intOf i).toNat)
    case atStart => exact ⟨0, Nat.zero_le _, rfl, rfl⟩
    case round =>
      obtain ⟨k, hk, rfl, HA⟩ := hrel
      by_cases hlt : k < ls.length
      · obtain ⟨s, hs⟩ : ∃ s, ls[k]? = some s := ⟨_, List.getElem?_eq_getElem hlt⟩
        obtain ⟨ad, C, cc, rfl, hba, c0, c1, c2, c3, hi, i1, i2⟩ := h k s hs
        have HSU := Lib.hid (take_succ_all hs lftB)
        have HNO := Lib.hid (fun q => lfts_no hs q)
        have hcl := HL2.out s (List.mem_of_getElem? hs)
        obtain ⟨o, st, cf, sh⟩ := s
        simp only at c0 c1 c2 c3 hi i1 i2 hcl
        clear hs
        rcases Bool.eq_false_or_eq_true (headB (o, st, cf, sh)) with hh | hh
        · obtain ⟨g0, g1, g2⟩ := headB_parts hh
          have d1 : decide ((8 : Int) < (cf.length : Int)) = false := by simp; omega
          have HH := Lib.hid hh
          clear hh
          go_wp2_with (go_at_call 72; refine (rf_In _ _ _ _).mono ?_; rintro e w' ⟨rfl, rfl⟩)
          clear g1 g2 d1
          go_loop [4] (fun i => ∃ j : Nat, j ≤ cf.length ∧ i = .int .i64 j ∧ Hid ((cf.take j).all cfB = true)) (fun i => cf.length - (intOf i).toNat)
          case atStart => exact ⟨0, Nat.zero_le _, rfl, rfl⟩
          case round =>
            obtain ⟨j, hj, rfl, HC⟩ := hrel
            by_cases hlt2 : j < cf.length
            · obtain ⟨ad2, x, rfl, hbx, hx, cx, x1, x2⟩ := hi.at_ hlt2
              have HS2 := Lib.hid (take_succ_all hx cfB)
              have HN2 := Lib.hid (all_no hx (p := cfB))
              clear hx
              rcases Bool.eq_false_or_eq_true (inB x (-4096) 4096) with hin | hin
              · go_wp2_with (go_at_call 72; refine (rf_In _ _ _ _).mono ?_; rintro e w' ⟨rfl, rfl⟩)
                go_round
                case rel => exact ⟨j + 1, by omega, by go_num, by show _ = _; rw [HS2.out, HC.out, show cfB x = true from hin]; rfl⟩
                case measure => simp [intOf]; omega
              · go_wp2_with (go_at_call 72; refine (rf_In _ _ _ _).mono ?_; rintro e w' ⟨rfl, rfl⟩)
                go_ret
                exact ⟨ret_bool (HNO.out (by unfold lftB; rw [HN2.out hin, Bool.and_false])).symm, rfl⟩
            · obtain rfl : j = cf.length := by omega
              go_wp2
              all_goals try (exfalso; omega)
              go_round
              case rel => exact ⟨k + 1, by omega, by go_num, by show _ = _; rw [HSU.out, HA.out]; unfold lftB; rw [HH.out]; have := HC.out; rw [List.take_length] at this; rw [this]; rfl⟩
              case measure => simp [intOf]; omega
        · have hno := HNO.out (show lftB (o, st, cf, sh) = false by unfold lftB; rw [hh]; rfl)
          have HF := Lib.hid hno
          clear hno
          by_cases g1 : cf.length ≤ 8
          · have d1 : decide ((8 : Int) < (cf.length : Int)) = false := by simp; omega
            rcases Bool.eq_false_or_eq_true (inB sh 0 20) with g2 | g2
            · have g3 : inB st (-8) 8 = false := by
                have := hh
                unfold headB at this
                rw [decide_eq_true g1, g2] at this
                simpa using this
              clear hh
              go_wp2_with (go_at_call 72; refine (rf_In _ _ _ _).mono ?_; rintro e w' ⟨rfl, rfl⟩)
              go_ret
              exact ⟨ret_bool HF.out.symm, rfl⟩
            · clear hh
              go_wp2_with (go_at_call 72; refine (rf_In _ _ _ _).mono ?_; rintro e w' ⟨rfl, rfl⟩)
              go_ret
              exact ⟨ret_bool HF.out.symm, rfl⟩
          · have d1 : decide ((8 : Int) < (cf.length : Int)) = true := by simp; omega
            clear hh
            go_wp2_with (go_at_call 72; refine (rf_In _ _ _ _).mono ?_; rintro e w' ⟨rfl, rfl⟩)
            go_ret
            exact ⟨ret_bool HF.out.symm, rfl⟩
      · obtain rfl : k = ls.length := by omega
        go_wp2
        all_goals try (exfalso; omega)
        go_ret
        exact ⟨ret_bool (by unfold lftsB; have := HA.out; rw [List.take_length] at this; rw [this, decide_eq_true hl3]; rfl), rfl⟩
def lightB (ls : List Lft) : Bool := (ls.all fun s => decide (s.2.2.1.length ≤ 20)) && decide (ls.length ≤ 20)
set_option maxRecDepth 100000 in
theorem l33_light (A : Option Addr) (ls : List Lft) (c : Nat) (w : World) (h : Lifts w A ls) (hl : ls.length ≤ 9223372036854775807) (hl2 : ∀ s ∈ ls, s.2.2.1.length ≤ 9223372036854775807) :
    Calls Try.prog 15 #[.slice A ls.length c] w fun e w' => e = .returned (.bool (lightB ls)) ∧ w = w' := by
  have HL2 := Lib.hid hl2
  clear hl2
  go_enter Try.func15, Try.ntmps15
  go_wp2
  go_loop [3] (fun i => ∃ k : Nat, k ≤ ls.length ∧ i = .int .i64 k ∧ Hid (((ls.take k).all fun s => decide (s.2.2.1.length ≤ 20)) = true)) (fun i => ls.length - (intOf i).toNat)
  case atStart => exact ⟨0, Nat.zero_le _, rfl, rfl⟩
  case round =>
    obtain ⟨k, hk, rfl, HA⟩ := hrel
    by_cases hlt : k < ls.length
    · obtain ⟨s, hs⟩ : ∃ s, ls[k]? = some s := ⟨_, List.getElem?_eq_getElem hlt⟩
      obtain ⟨ad, C, cc, rfl, hba, c0, c1, c2, c3, hi, i1, i2⟩ := h k s hs
      have HSU := Lib.hid (take_succ_all hs fun s : Lft => decide (s.2.2.1.length ≤ 20))
      have HN := Lib.hid (all_no hs (p := fun s : Lft => decide (s.2.2.1.length ≤ 20)))
      have hcl := HL2.out s (List.mem_of_getElem? hs)
      obtain ⟨o, st, cf, sh⟩ := s
      simp only at c0 c1 c2 c3 hi i1 i2 hcl
      clear hs
      by_cases g1 : cf.length ≤ 20
      · have d1 : decide ((20 : Int) < (cf.length : Int)) = false := by simp; omega
        go_wp2
        go_round
        case rel => exact ⟨k + 1, by omega, by go_num, by show _ = _; rw [HSU.out, HA.out, decide_eq_true g1]; rfl⟩
        case measure => simp [intOf]; omega
      · have d1 : decide ((20 : Int) < (cf.length : Int)) = true := by simp; omega
        go_wp2
        go_ret
        exact ⟨ret_bool (by unfold lightB; rw [HN.out (decide_eq_false g1)]; rfl), rfl⟩
    · obtain rfl : k = ls.length := by omega
      go_wp2
      all_goals go_ret
      all_goals exact ⟨ret_bool (by unfold lightB; have := HA.out; rw [List.take_length] at this; rw [this, Bool.true_and, decide_eq_decide]; omega), rfl⟩
end Go.Proofs.Ytmdfgidejdiiiaa
end
section
namespace Go.Proofs.Ytmdfgidejdiiiaa
open Go.RowKit
def IntRB (w : World) (n : Int) (e : Ending) (w' : World) : Prop := e = .returned (.int .i64 n) ∧ Below w.heap.size w w'
set_option maxRecDepth 100000 in
set_option maxHeartbeats 2000000 in
theorem r33_change (o : Bool) (st sh : Int) (C B : Option Addr) (c fr : List Int) (cc cb N n : Nat) (w : World) (hok : LftOk (o, st, c, sh)) (hn : n = fr.length) (hn2 : n ≤ 4096) (hN : N < n) (hfr : W32 fr) (hc : Ints w C c) (hf : Ints w B fr) :
    Calls Try.prog 106 #[.agg #[.bool o, .int .i64 st, .slice C c.length cc, .int .i64 sh], .slice B n cb, .int .i64 N] w (IntRB w (chF (o, st, c, sh) fr N)) := by
  obtain ⟨k1, k2, k3, k4, k5, k6⟩ := hok
  simp only at k1 k2 k3 k4 k5 k6
  have K6 := Lib.hid k6
  have HFR := Lib.hid hfr
  have HN := Lib.hid hn
  have hal := fun x => Below.alloc (Below.refl w.heap.size w) (Nat.le_refl _) x
  have hc1 := fun x => hc.grow (hal x)
  have hf1 := fun x => hf.grow (hal x)
  have HC1 := Lib.hid hc1
  have HF1 := Lib.hid hf1
  have HAL := Lib.hid hal
  clear hal hc1 hf1 hc hf k6 hfr hn
  go_enter Try.func106, Try.ntmps106
  go_wp2
  generalize hW : w.alloc (.cells #[.bool o, .int .i64 st, .slice C c.length cc, .int .i64 sh] 64) = W
  have q1 : W.cell? ⟨w.heap.size, 1, none⟩ = some (.int .i64 st) := by rw [← hW]; simp [go_sem]
  have q2 : W.cell? ⟨w.heap.size, 2, none⟩ = some (.slice C c.length cc) := by rw [← hW]; simp [go_sem]
  have q3 : W.cell? ⟨w.heap.size, 3, none⟩ = some (.int .i64 sh) := by rw [← hW]; simp [go_sem]
  have hc := HC1.out (.cells #[.bool o, .int .i64 st, .slice C c.length cc, .int .i64 sh] 64)
  have hf := HF1.out (.cells #[.bool o, .int .i64 st, .slice C c.length cc, .int .i64 sh] 64)
  have hWB := HAL.out (.cells #[.bool o, .int .i64 st, .slice C c.length cc, .int .i64 sh] 64)
  have hlt : w.heap.size < W.heap.size := by rw [← hW]; simp
  rw [hW] at hc hf hWB
  have Q1 := Lib.hid q1
  have Q2 := Lib.hid q2
  have Q3 := Lib.hid q3
  have HWB := Lib.hid hWB
  clear hW q1 q2 q3 HC1 HF1 HAL hWB
  go_loopw [7, 8] (fun s i wr => ∃ K : Nat, ∃ S : Int, K ≤ c.length ∧ i = .int .i64 K ∧ s = .int .i64 S ∧ Hid (S = chS c st fr N K) ∧ Below W.heap.size W wr) (fun _ i _ => c.length - (intOf i).toNat)
  case atStart => exact ⟨0, 0, Nat.zero_le _, rfl, rfl, rfl, Below.refl _ _⟩
  case round =>
    obtain ⟨K, S, hK, rfl, rfl, HCS, hbw⟩ := hrel
    have hsb := chS_bound (st := st) (n := N) K6.out HFR.out K
    rw [← HCS.out] at hsb
    have c1 := (hbw.cell hlt).trans Q1.out
    have c2 := (hbw.cell hlt).trans Q2.out
    have c3 := (hbw.cell hlt).trans Q3.out
    by_cases hlt2 : K < c.length
    · obtain ⟨ad, a, rfl, ba, ha, ca, a1, a2⟩ := (hc.grow hbw).at_ hlt2
      obtain ⟨a3, a4⟩ := K6.out a (List.mem_of_getElem? ha)
      have m0 := Int.emod_nonneg ((N : Int) + st + K) (show (fr.length : Int) ≠ 0 by have := HN.out; omega)
      have m1 := Int.emod_lt_of_pos ((N : Int) + st + K) (show (0 : Int) < fr.length by have := HN.out; omega)
      obtain ⟨J, hJ⟩ := Int.eq_ofNat_of_zero_le m0
      rw [hJ] at m0 m1
      have hJl : J < fr.length := by omega
      obtain ⟨ad2, y, rfl, by', hy, cy, y1, y2⟩ := (hf.grow hbw).at_ hJl
      obtain ⟨y3, y4⟩ := HFR.out y (List.mem_of_getElem? hy)
      have hmb := mul_bound (x := a) (y := y) (B := 4096) (C := 2147483648) ⟨a3, a4⟩ ⟨y3, by omega⟩
      obtain ⟨P, hP⟩ : ∃ P, a * y = P := ⟨_, rfl⟩
      have HST : Hid (chS c st fr N (K + 1) = S + P) := by
        show chS c st fr N K + el c K * el fr (((N : Int) + st + K) % (fr.length : Int)).toNat = _
        rw [← HCS.out, el_of ha, hJ, Int.toNat_natCast, el_of hy, hP]
      rw [hP] at hmb
      have hcar : ∀ w, Calls Try.prog 81 #[.int .i64 ((N : Int) + st + K), .int .i64 n] w fun e w' => e = .returned (.int .i64 J) ∧ w = w' := fun w => by
        rw [HN.out]
        have := rf_mod ((N : Int) + st + K) fr.length w (by omega) (by have := HN.out; omega)
        rw [hJ] at this; exact this
      have HCAR := Lib.hid hcar
      have HBW := Lib.hid hbw
      have x1 : (K : Int) < (c.length : Int) := by omega
      have x2 : (0 : Int) ≤ (K : Int) := by omega
      have x3 : (J : Int) < (n : Int) := by have := HN.out; omega
      have x4 : (0 : Int) ≤ (J : Int) := by omega
      have x5 : IntKind.i64.wrap ((N : Int) + st) = (N : Int) + st := IntWalk.i64_in _ (by omega)
      have x6 : IntKind.i64.wrap ((N : Int) + st + (K : Int)) = (N : Int) + st + (K : Int) := IntWalk.i64_in _ (by omega)
      have x7 : IntKind.i64.wrap P = P := IntWalk.i64_in _ (by omega)
      have x8 : IntKind.i64.wrap (S + P) = S + P := IntWalk.i64_in _ (by omega)
      clear ha hy hJ hcar m0 m1 hbw hJl
      go_wp2_with fail
      have S0 : Hid (wr.cell? ⟨w.heap.size, 2, none⟩ = some (.slice (some ad) c.length cc) ∧ wr.cell? ⟨w.heap.size, 1, none⟩ = some (.int .i64 st) ∧ wr.cell? (ad.add K) = some (.int .i64 a) ∧ wr.cell? (ad2.add J) = some (.int .i64 y)) := ⟨c2, c1, ca, cy⟩
      clear c1 c2 c3 ca cy
      go_region_held3 (fun w' => w'.cell? ⟨w.heap.size, 2, none⟩ = some (.slice (some ad) c.length cc) ∧ w'.cell? ⟨w.heap.size, 1, none⟩ = some (.int .i64 st) ∧ w'.cell? (ad.add K) = some (.int .i64 a) ∧ w'.cell? (ad2.add J) = some (.int .i64 y))
        (exact S0.out)
        (first
          | (go_at_call 81; refine (HCAR.out _).mono ?_; rintro e w1 ⟨rfl, rfl⟩))
      all_goals
        clear x1 x2 x3 x4 x5 x6 x7 x8
        go_wp2
        go_roundw
        case rel => exact ⟨K + 1, S + P, by omega, by go_num, rfl, HST.out.symm, HBW.out.drew⟩
        case measure => simp [intOf]; omega
    · obtain rfl : K = c.length := by omega
      have hI : I64 S := ⟨by omega, by omega⟩
      have HE : Hid (chF (o, st, c, sh) fr N = shiftF S sh 1) := by
        show shiftF (chS c st fr N c.length) sh 1 = _
        rw [← HCS.out]
      go_wp2_with fail
      refine (rf_Shift S sh 1 _ hI).mono ?_
      rintro e w1 ⟨rfl, hb1⟩
      have hb := HWB.out.trans ((hbw.trans (hb1.mono hbw.size)).mono HWB.out.size)
      clear hsb c1 c2 c3 hbw hb1
      go_wp2
      go_ret
      exact ⟨ret_int HE.out.symm, hb⟩
theorem belowT2 {B : Nat} {a wr w1 : World} (h : Below B a wr) (hB : B ≤ wr.heap.size) (h1 : Below wr.drew.heap.size wr.drew w1) : Below B a w1 := h.drew.trans (h1.mono (by simpa using hB))
theorem chF_bound {o : Bool} {st sh : Int} {c fr : List Int} (hok : LftOk (o, st, c, sh)) (hfr : W32 fr) (N : Nat) : -70368744177664 ≤ chF (o, st, c, sh) fr N ∧ chF (o, st, c, sh) fr N ≤ 70368744177664 := by
  obtain ⟨k1, k2, k3, k4, k5, k6⟩ := hok
  simp only at k1 k2 k3 k4 k5 k6
  have := chS_bound (st := st) (n := N) k6 hfr c.length
  exact step_bound (s := chS c st fr N c.length) ⟨by omega, by omega⟩ k2 k3
theorem app_intsN {ops : Array Oper} {rest : List Oper} {o : Oper} {a : Act} {Q : Exit → Act → World → Prop} (w : World) (hg : o.guard = none) (s x : Operand) (ho : o.op = .call { callee := .builtin .append, args := #[s, x], argTypes := #[33, 33] })
    (base : Nat) {v : Value} {l m : List Int} {A : Option Addr} {n c : Nat} (hs : a.eval s = v) (hx : a.eval x = .slice A n c) (hnm : m.length = n) (hown : Own base w v l) (hI : Ints w A m) (hn : l.length + n ≤ 100000000) (hbase : base ≤ w.heap.size)
    (h : ∀ v' w', Own base w' v' (l ++ m) → w.grownBy w' v.ownBlock → (v'.ownBlock = v.ownBlock ∨ v'.ownBlock = some w.heap.size) → wpList Try.prog ops Q rest (a.put o.dst v') w') : wpList Try.prog ops Q (o :: rest) a w := by
  subst hnm
  exact app_ints w hg s x ho base hs hx hown hI hn hbase h
set_option maxRecDepth 100000 in
set_option maxHeartbeats 4000000 in
theorem r33_step (o : Bool) (st sh sg : Int) (D B C2 : Option Addr) (c x y : List Int) (cc cb cd h : Nat) (w : World) (hok : LftOk (o, st, c, sh)) (hsg : sg = 1 ∨ sg = -1) (hx : x.length = h) (hy : y.length = h) (hh : h ≤ 4096) (wx : W32 x) (wy : W32 y) (hc : Ints w D c) (hX : Ints w B x) (hY : Ints w C2 y) :
    Calls Try.prog 69 #[.agg #[.bool o, .int .i64 st, .slice D c.length cc, .int .i64 sh], .slice B h cb, .slice C2 h cd, .int .i64 sg] w (Ret2 w (lift1 sg (x, y) (o, st, c, sh)).1 (lift1 sg (x, y) (o, st, c, sh)).2) := by
  have LX := Lib.hid hx
  have LY := Lib.hid hy
  have WX := Lib.hid wx
  have WY := Lib.hid wy
  have HOK := Lib.hid hok
  have HSG := Lib.hid hsg
  have hal := fun x => Below.alloc (Below.refl w.heap.size w) (Nat.le_refl _) x
  have hc1 := fun o => hc.grow (hal o)
  have hx1 := fun o => hX.grow (hal o)
  have hy1 := fun o => hY.grow (hal o)
  have HC1 := Lib.hid hc1
  have HX1 := Lib.hid hx1
  have HY1 := Lib.hid hy1
  have HAL := Lib.hid hal
  have i1 : I64 sg := by rcases hsg with rfl | rfl <;> exact ⟨by omega, by omega⟩
  clear hal hc1 hx1 hy1 hc hX hY hok hsg wx wy hx hy
  go_enter Try.func69, Try.ntmps69
  go_upto_region 1 with fail
  generalize hW : w.alloc (.cells #[.bool o, .int .i64 st, .slice D c.length cc, .int .i64 sh] 64) = W0
  have hW1 : w.heap.size < W0.heap.size := by rw [← hW]; simp
  have BX : Hid (W0.cell? ⟨w.heap.size, 0, none⟩ = some (.bool o) ∧ W0.cell? ⟨w.heap.size, 1, none⟩ = some (.int .i64 st) ∧ W0.cell? ⟨w.heap.size, 2, none⟩ = some (.slice D c.length cc) ∧ W0.cell? ⟨w.heap.size, 3, none⟩ = some (.int .i64 sh)) := by
    rw [← hW]; exact ⟨by simp [go_sem], by simp [go_sem], by simp [go_sem], by simp [go_sem]⟩
  have HWB : Hid (Below w.heap.size w W0) := by show Below _ _ _; rw [← hW]; exact HAL.out _
  have HC : Hid (Ints W0 D c) := by show Ints _ _ _; rw [← hW]; exact HC1.out _
  have HX : Hid (Ints W0 B x) := by show Ints _ _ _; rw [← hW]; exact HX1.out _
  have HY : Hid (Ints W0 C2 y) := by show Ints _ _ _; rw [← hW]; exact HY1.out _
  clear hW HC1 HX1 HY1 HAL
  go_wp2_with (first
    | (at_builtin; refine app_intsN _ rfl (.tmp 13) (.tmp 14) rfl W0.heap.size rfl rfl LX.out (Own.empty rfl) (HX.out.grow ((Below.refl _ _).alloc (Nat.le_refl _) _)) (by simp; omega) (by simp) ?_; intro v1 w1 ho1 hg1 hv1; have hbw1 : Below W0.heap.size W0 w1 := grown_to ((Below.refl _ _).alloc (Nat.le_refl _) _) hg1 (Nat.le_refl _); have hb1 := HY.out.grow hbw1)
    | (at_builtin; refine app_intsN _ rfl (.tmp 16) (.tmp 17) rfl w1.heap.size rfl rfl LY.out (Own.empty rfl) (hb1.grow ((Below.refl _ _).alloc (Nat.le_refl _) _)) (by simp; omega) (by simp) ?_; intro v2 w2 ho2 hg2 hv2))
  have hbw2 : Below w1.heap.size w1 w2 := grown_to ((Below.refl _ _).alloc (Nat.le_refl _) _) hg2 (Nat.le_refl _)
  obtain ⟨g1, hv1', hg1a⟩ : ∃ g, v1.ownBlock = some g ∧ W0.heap.size ≤ g := by
    rcases hv1 with h | h
    · exact ⟨_, h, Nat.le_refl _⟩
    · exact ⟨_, h, by simp⟩
  obtain ⟨g2, hv2', hg2a⟩ : ∃ g, v2.ownBlock = some g ∧ w1.heap.size ≤ g := by
    rcases hv2 with h | h
    · exact ⟨_, h, Nat.le_refl _⟩
    · exact ⟨_, h, by simp⟩
  rw [List.nil_append] at ho1 ho2
  obtain ⟨cap1, rfl, _, hg1b⟩ := ho1.at_block hv1'
  obtain ⟨cap2, rfl, _, hg2b⟩ := ho2.at_block hv2'
  have hne1 : g1 ≠ g2 := by omega
  have hne2 : g2 ≠ g1 := by omega
  have ho1 := ho1.grow hbw2
  have ho2 := ho2.base hbw1.size
  have hbw := below_then hbw1 hbw2
  rw [LX.out] at ho1 ⊢
  rw [LY.out] at ho2 ⊢
  have hlg1 : W0.heap.size ≤ g1 := hg1a
  have hlg2 : W0.heap.size ≤ g2 := Nat.le_trans hbw1.size hg2a
  clear hg1 hg2 hv1 hv2 hv1' hv2' hbw1 hbw2 hb1 hg1b hg2b hg1a hg2a
  cases o with
  | true =>
    show _
    go_wp2
    go_loopw [12] (fun i wr => ∃ N : Nat, N ≤ h ∧ i = .int .i64 N ∧ Own W0.heap.size wr (.slice (some ⟨g1, 0, none⟩) h cap1) x ∧ Own W0.heap.size wr (.slice (some ⟨g2, 0, none⟩) h cap2) (stN (true, st, c, sh) sg y x N) ∧ Below W0.heap.size W0 wr) (fun i _ => h - (intOf i).toNat)
    case atStart => exact ⟨0, Nat.zero_le _, rfl, ho1, by rw [stN_zero]; exact ho2, hbw⟩
    case round =>
      obtain ⟨N, hN, rfl, h1, h2, hbr⟩ := hrel
      by_cases hlt : N < h
      · obtain ⟨ad, E, hAd, hbE, hE, cE, E1, E2⟩ := HY.out.at_ (k := N) (by rw [LY.out]; exact hlt)
        subst hAd
        have c0 := (hbr.cell hW1).trans BX.out.1
        have HS := Lib.hid (@stN_succ (true, st, c, sh) sg y x N (by rw [LY.out]; exact hlt))
        have HAT := Lib.hid (@stN_at (true, st, c, sh) sg y x N (by rw [LY.out]; exact hlt))
        have hel : el y N = E := el_of hE
        have hcb := chF_bound (o := true) HOK.out WX.out N
        obtain ⟨Z, hZ⟩ : ∃ Z, chF (true, st, c, sh) x N = Z := ⟨_, rfl⟩
        rw [hZ] at hcb
        obtain ⟨M, hM⟩ : ∃ M, sg * Z = M := ⟨_, rfl⟩
        have hMb : -70368744177664 ≤ M ∧ M ≤ 70368744177664 := by rcases HSG.out with h | h <;> (rw [h] at hM; omega)
        obtain ⟨E3, E4⟩ := WY.out E (List.mem_of_getElem? hE)
        obtain ⟨R, hR⟩ : ∃ R, wrapF 32 (E + M) = R := ⟨_, rfl⟩
        obtain ⟨R1, R2⟩ := w32_wrap (E + M)
        rw [hR] at R1 R2
        have HS2 : Hid (stN (true, st, c, sh) sg y x (N + 1) = (stN (true, st, c, sh) sg y x N).set N R) := by show _ = _; rw [HS.out, hel, hZ, hM, hR]
        have hcs : ∀ w, Ints w D c → Ints w B x → Calls Try.prog 106 #[.agg #[.bool true, .int .i64 st, .slice D c.length cc, .int .i64 sh], .slice B h cb, .int .i64 N] w (IntRB w Z) := fun w g0 g1 => by
          rw [← hZ]; exact r33_change true st sh D B c x cc cb N h w HOK.out LX.out.symm (by omega) hlt WX.out g0 g1
        have HCS := Lib.hid hcs
        have HR := Lib.hid hR
        have S0 : Hid ((W0.cell? ⟨w.heap.size, 0, none⟩ = some (.bool true) ∧ W0.cell? ⟨w.heap.size, 1, none⟩ = some (.int .i64 st) ∧ W0.cell? ⟨w.heap.size, 2, none⟩ = some (.slice D c.length cc) ∧ W0.cell? ⟨w.heap.size, 3, none⟩ = some (.int .i64 sh)) ∧ W0.cell? (ad.add N) = some (.int .i64 E)) := ⟨BX.out, cE⟩
        have hbE2 : (ad.add N).block < W0.heap.size := by rw [block_add]; exact hbE
        have hsz := hbr.size
        have x1 : (0 : Int) ≤ (N : Int) := by omega
        have x2 : (N : Int) < (h : Int) := by omega
        have x3 : IntKind.i64.wrap M = M := IntWalk.i64_in _ (by omega)
        have x4 : IntKind.i64.wrap (E + M) = E + M := IntWalk.i64_in _ (by omega)
        have h1d := h1.grow ((Below.refl wr.heap.size wr).drew)
        have h2d := h2.grow ((Below.refl wr.heap.size wr).drew)
        have hbd := hbr.drew
        clear hE cE hel hZ hcs hR h1 h2
        go_wp2_with fail
        have ct := h2d.cell HAT.out
        have cf := h2d.free N
        clear c0
        go_region_held3 (fun w' => ((w'.cell? ⟨w.heap.size, 0, none⟩ = some (.bool true) ∧ w'.cell? ⟨w.heap.size, 1, none⟩ = some (.int .i64 st) ∧ w'.cell? ⟨w.heap.size, 2, none⟩ = some (.slice D c.length cc) ∧ w'.cell? ⟨w.heap.size, 3, none⟩ = some (.int .i64 sh)) ∧ w'.cell? (ad.add N) = some (.int .i64 E)))
          (first | (exact stepS hW1 hbE2 S0 (by go_grown)) | (exact stepS hW1 hbE2 S0 (hbw2.setCell (p := ⟨g2, N, none⟩) hlg2 _)))
          (first
            | (go_at_call 106; refine (HCS.out _ (HC.out.grow (by go_grown)) (HX.out.grow (by go_grown))).mono ?_; rintro e w1 ⟨rfl, hb1⟩; have hbw2 := belowT2 hbr hsz hb1; have h1d := h1d.grow hb1; have h2d := h2d.grow hb1; have ct := h2d.cell HAT.out; have cf := h2d.free N)
            | (go_at_call 77; refine (rf_Wrap _ _ _).mono ?_; rintro e w1 ⟨rfl, rfl⟩; rw [HR.out]))
        all_goals
          clear x1 x2 x3 x4 ct cf
          go_wp2
          go_roundw
          case rel => exact ⟨N + 1, by omega, by go_num, h1d.other hne1, by rw [HS2.out]; exact h2d.set N ⟨by omega, by omega⟩, hbw2.setCell (p := ⟨g2, N, none⟩) hlg2 _⟩
          case measure => simp [intOf]; omega
      · obtain rfl : N = h := by omega
        go_wp2
        go_ret2
        have hst : stN (true, st, c, sh) sg y x N = stF (true, st, c, sh) sg y x := by rw [← LY.out]; rfl
        rw [hst] at h2
        exact ⟨_, _, rfl, h1.base HWB.out.size, h2.base HWB.out.size, HWB.out.trans (hbr.mono HWB.out.size)⟩
  | false =>
    show _
    go_wp2
    go_loopw [12] (fun i wr => ∃ N : Nat, N ≤ h ∧ i = .int .i64 N ∧ Own W0.heap.size wr (.slice (some ⟨g1, 0, none⟩) h cap1) (stN (false, st, c, sh) sg x y N) ∧ Own W0.heap.size wr (.slice (some ⟨g2, 0, none⟩) h cap2) y ∧ Below W0.heap.size W0 wr) (fun i _ => h - (intOf i).toNat)
    case atStart => exact ⟨0, Nat.zero_le _, rfl, by rw [stN_zero]; exact ho1, ho2, hbw⟩
    case round =>
      obtain ⟨N, hN, rfl, h1, h2, hbr⟩ := hrel
      by_cases hlt : N < h
      · obtain ⟨ad, E, hAd, hbE, hE, cE, E1, E2⟩ := HX.out.at_ (k := N) (by rw [LX.out]; exact hlt)
        subst hAd
        have c0 := (hbr.cell hW1).trans BX.out.1
        have HS := Lib.hid (@stN_succ (false, st, c, sh) sg x y N (by rw [LX.out]; exact hlt))
        have HAT := Lib.hid (@stN_at (false, st, c, sh) sg x y N (by rw [LX.out]; exact hlt))
        have hel : el x N = E := el_of hE
        have hcb := chF_bound (o := false) HOK.out WY.out N
        obtain ⟨Z, hZ⟩ : ∃ Z, chF (false, st, c, sh) y N = Z := ⟨_, rfl⟩
        rw [hZ] at hcb
        obtain ⟨M, hM⟩ : ∃ M, sg * Z = M := ⟨_, rfl⟩
        have hMb : -70368744177664 ≤ M ∧ M ≤ 70368744177664 := by rcases HSG.out with h | h <;> (rw [h] at hM; omega)
        obtain ⟨E3, E4⟩ := WX.out E (List.mem_of_getElem? hE)
        obtain ⟨R, hR⟩ : ∃ R, wrapF 32 (E + M) = R := ⟨_, rfl⟩
        obtain ⟨R1, R2⟩ := w32_wrap (E + M)
        rw [hR] at R1 R2
        have HS2 : Hid (stN (false, st, c, sh) sg x y (N + 1) = (stN (false, st, c, sh) sg x y N).set N R) := by show _ = _; rw [HS.out, hel, hZ, hM, hR]
        have hcs : ∀ w, Ints w D c → Ints w C2 y → Calls Try.prog 106 #[.agg #[.bool false, .int .i64 st, .slice D c.length cc, .int .i64 sh], .slice C2 h cd, .int .i64 N] w (IntRB w Z) := fun w g0 g1 => by
          rw [← hZ]; exact r33_change false st sh D C2 c y cc cd N h w HOK.out LY.out.symm (by omega) hlt WY.out g0 g1
        have HCS := Lib.hid hcs
        have HR := Lib.hid hR
        have S0 : Hid ((W0.cell? ⟨w.heap.size, 0, none⟩ = some (.bool false) ∧ W0.cell? ⟨w.heap.size, 1, none⟩ = some (.int .i64 st) ∧ W0.cell? ⟨w.heap.size, 2, none⟩ = some (.slice D c.length cc) ∧ W0.cell? ⟨w.heap.size, 3, none⟩ = some (.int .i64 sh)) ∧ W0.cell? (ad.add N) = some (.int .i64 E)) := ⟨BX.out, cE⟩
        have hbE2 : (ad.add N).block < W0.heap.size := by rw [block_add]; exact hbE
        have hsz := hbr.size
        have x1 : (0 : Int) ≤ (N : Int) := by omega
        have x2 : (N : Int) < (h : Int) := by omega
        have x3 : IntKind.i64.wrap M = M := IntWalk.i64_in _ (by omega)
        have x4 : IntKind.i64.wrap (E + M) = E + M := IntWalk.i64_in _ (by omega)
        have h1d := h1.grow ((Below.refl wr.heap.size wr).drew)
        have h2d := h2.grow ((Below.refl wr.heap.size wr).drew)
        have hbd := hbr.drew
        clear hE cE hel hZ hcs hR h1 h2
        go_wp2_with fail
        have ct := h1d.cell HAT.out
        have cf := h1d.free N
        clear c0
        go_region_held3 (fun w' => ((w'.cell? ⟨w.heap.size, 0, none⟩ = some (.bool false) ∧ w'.cell? ⟨w.heap.size, 1, none⟩ = some (.int .i64 st) ∧ w'.cell? ⟨w.heap.size, 2, none⟩ = some (.slice D c.length cc) ∧ w'.cell? ⟨w.heap.size, 3, none⟩ = some (.int .i64 sh)) ∧ w'.cell? (ad.add N) = some (.int .i64 E)))
          (first | (exact stepS hW1 hbE2 S0 (by go_grown)) | (exact stepS hW1 hbE2 S0 (hbw2.setCell (p := ⟨g1, N, none⟩) hlg1 _)))
          (first
            | (go_at_call 106; refine (HCS.out _ (HC.out.grow (by go_grown)) (HY.out.grow (by go_grown))).mono ?_; rintro e w1 ⟨rfl, hb1⟩; have hbw2 := belowT2 hbr hsz hb1; have h1d := h1d.grow hb1; have h2d := h2d.grow hb1; have ct := h1d.cell HAT.out; have cf := h1d.free N)
            | (go_at_call 77; refine (rf_Wrap _ _ _).mono ?_; rintro e w1 ⟨rfl, rfl⟩; rw [HR.out]))
        all_goals
          clear x1 x2 x3 x4 ct cf
          go_wp2
          go_roundw
          case rel => exact ⟨N + 1, by omega, by go_num, by rw [HS2.out]; exact h1d.set N ⟨by omega, by omega⟩, h2d.other hne2, hbw2.setCell (p := ⟨g1, N, none⟩) hlg1 _⟩
          case measure => simp [intOf]; omega
      · obtain rfl : N = h := by omega
        go_wp2
        go_ret2
        have hst : stN (false, st, c, sh) sg x y N = stF (false, st, c, sh) sg x y := by rw [← LX.out]; rfl
        rw [hst] at h1
        exact ⟨_, _, rfl, h1.base HWB.out.size, h2.base HWB.out.size, HWB.out.trans (hbr.mono HWB.out.size)⟩
end Go.Proofs.Ytmdfgidejdiiiaa
end
