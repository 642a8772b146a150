/- The law Exchanges of chapter 32. -/
import Derived.Test.YthalkhpdcijlkaaMk
import Derived.Test.YthalkhpdcijlkaaMn
namespace Go.Proofs.Ythalkhpdcijlkaa
open Go.RowKit

theorem Ints.take {w : World} {A : Option Addr} {l : List Int} (h : Ints w A l) (n : Nat) : Ints w A (l.take n) := by
  refine ⟨fun k v hk => ?_, fun x hx => h.2 x (List.mem_of_mem_take hx)⟩
  rw [List.getElem?_map] at hk
  by_cases hkn : k < n
  · rw [List.getElem?_take_of_lt hkn, ← List.getElem?_map] at hk
    exact h.1 k v hk
  · rw [List.getElem?_eq_none (by simp; omega)] at hk; cases hk
theorem lw_gcd_is (a b g : Nat) (L M : Int) (w : World) (hL : L = (a : Int)) (hM : M = (b : Int)) (hg : Nat.gcd a b = g) (ha : a ≤ 1000000) (hb : b ≤ 1000000) : Calls Try.prog 10 #[.int .i64 L, .int .i64 M] w fun e w' => e = .returned (.int .i64 (g : Int)) ∧ Below w.heap.size w w' := by
  subst hL hM hg
  exact lw_gcd a b w ha hb
theorem lw_ex_is (A : Option Addr) (x : List Int) (c n l m : Nat) (L M : Int) (v : Bool) (w : World) (hL : L = (l : Int)) (hM : M = (m : Int)) (hv : exB0 x l m = v) (hl : 1 ≤ l ∧ l ≤ 12) (hm : 1 ≤ m ∧ m ≤ 12) (hn : n = x.length) (hx : x.length ≤ 300) (h : Ints w A x) :
    Calls Try.prog 9 #[.slice A n c, .int .i64 L, .int .i64 M] w fun e w' => e = .returned (.bool v) ∧ Below w.heap.size w w' := by
  subst hv
  exact lw_exchanged A x c n l m L M w hL hM hl hm hn hx h
set_option maxRecDepth 100000 in
set_option maxHeartbeats 2000000 in
theorem law_MultirateExchanges (u : Option Addr × Nat × List Int) (a0 b0 : Int) (w : World) (hu : Ints w u.1 u.2.2 ∧ u.2.2.length ≤ 9223372036854775807 ∧ u.2.2.length ≤ u.2.1) (_ : I64 a0) (_ : I64 b0) :
    Calls Try.prog 3 #[.slice u.1 u.2.2.length u.2.1, .int .i64 a0, .int .i64 b0] w fun e w' => e = .returned (.bool true) ∧ Below w.heap.size w w' := by
  obtain ⟨A, c, x⟩ := u
  obtain ⟨h, hx, hcap⟩ := hu
  simp only at h hx hcap ⊢
  have hb := Below.refl w.heap.size w
  obtain ⟨g1, g2⟩ := within_in (m := 12) (by decide) a0
  obtain ⟨g3, g4⟩ := within_in (m := 12) (by decide) b0
  obtain ⟨n, hn⟩ : ∃ n, withinF a0 12 = n := ⟨_, rfl⟩
  obtain ⟨m, hm⟩ : ∃ m, withinF b0 12 = m := ⟨_, rfl⟩
  rw [hn] at g1 g2
  rw [hm] at g3 g4
  obtain ⟨a, ha⟩ := Int.eq_ofNat_of_zero_le (by omega : 0 ≤ 1 + n)
  obtain ⟨b, hb'⟩ := Int.eq_ofNat_of_zero_le (by omega : 0 ≤ 1 + m)
  have a1 : 1 ≤ a ∧ a ≤ 12 := by omega
  have b1 : 1 ≤ b ∧ b ≤ 12 := by omega
  have hle : x.length / b * b ≤ x.length := Nat.div_mul_le_self _ _
  have d1 : (x.length : Int) / b = ((x.length / b : Nat) : Int) := rfl
  have d2 : (x.length : Int).tdiv b = ((x.length / b : Nat) : Int) := quo_cast
  obtain ⟨N, hN⟩ : ∃ N, x.length / b * b = N := ⟨_, rfl⟩
  obtain ⟨q, hq⟩ : ∃ q, x.length / b = q := ⟨_, rfl⟩
  rw [hq] at d1 d2 hN hle
  rw [hN] at hle
  have d3 : (q : Int) * b = (N : Int) := by rw [← Int.natCast_mul, hN]
  have hql : q ≤ x.length := by rw [← hq]; exact Nat.div_le_self _ _
  have HN := Lib.hid hN
  have HA := Lib.hid ha
  have hN300 : ¬ N ≤ 300 ∨ N ≤ 300 := by omega
  clear ha hN hq d2
  by_cases hlong : 300 < N
  · go_enter Try.func3, Try.ntmps3
    go_wp2_with (first
      | (go_at_call 7; refine (wd_Within _ _ _ (by omega)).mono ?_; rintro e w' ⟨rfl, rfl⟩)
      | (go_at_call 8; refine (known32 _).mono ?_; rintro e w1 ⟨rfl, hb1⟩; have hb := below_then hb hb1))
    all_goals try (exfalso; omega)
    all_goals go_ret
    all_goals exact ⟨rfl, hb⟩
  have hbn : b ≤ 100000000 := by omega
  go_enter Try.func3, Try.ntmps3
  go_wp2_with (first
    | (go_at_call 7; refine (wd_Within _ _ _ (by omega)).mono ?_; rintro e w' ⟨rfl, rfl⟩)
    | (at_make; refine mk_int rfl _ _ rfl w.heap.size b rfl rfl rfl hbn (Nat.le_refl _) ?_; intro w1 hown1 hb1))
  all_goals try (exfalso; omega)
  have hown0 : Own w.heap.size w1 (.slice (some ⟨w.heap.size, 0, none⟩) b b) (onN b 0) := by rw [onN_zero]; exact hown1
  clear hown1
  go_loopw [9] (fun i wr => ∃ k : Nat, k ≤ b ∧ i = .int .i64 k ∧ Own w.heap.size wr (.slice (some ⟨w.heap.size, 0, none⟩) b b) (onN b k) ∧ Below w.heap.size w wr) (fun i _ => b - (intOf i).toNat)
  case atStart => exact ⟨0, Nat.zero_le _, rfl, hown0, hb1⟩
  case round =>
    obtain ⟨k, hk, rfl, hown, hbw⟩ := hrel
    by_cases hlt : k < b
    · have HS := Lib.hid (onN_succ hlt)
      have hln := onN_length b k
      obtain ⟨z, hz⟩ : ∃ z, (onN b k)[k]? = some z := ⟨_, List.getElem?_eq_getElem (by rw [hln]; exact hlt)⟩
      have cz := hown.cell hz
      have cf := hown.free k
      have HSET := Lib.hid (hown.set k (y := (k : Int) + 1) ⟨by omega, by omega⟩)
      clear hown hz hln
      go_wp2
      all_goals try (exfalso; omega)
      go_roundw
      case rel => exact ⟨k + 1, by omega, by go_num, by rw [HS.out]; exact HSET.out, hbw.setCell (Nat.le_refl _) _⟩
      case measure => simp [intOf]; omega
    · obtain rfl : b = k := by omega
      have hb := hbw
      have h := h.grow hbw
      obtain ⟨g, hg⟩ : ∃ g, Nat.gcd a b = g := ⟨_, rfl⟩
      have HG := Lib.hid hg
      have hcl := onN_length b b
      have hci : Ints wr (some ⟨w.heap.size, 0, none⟩) (onN b b) := by
        obtain ⟨A', c', e, _, hi⟩ := hown.form
        injection e with e1 e2 e3
        subst e1
        exact hi
      have e1 := ex_all a (by omega) b (by omega) a1.1 b1.1
      rw [hg] at e1
      by_cases hg1 : g = 1
      · subst hg1
        have HCL := Lib.hid hcl
        have htl : (x.take N).length = b * q := by rw [List.length_take, Nat.mul_comm b q, HN.out]; omega
        have HTL : Hid (N = (x.take N).length) := by show _ = _; rw [List.length_take]; omega
        have HT3 : (x.take N).length ≤ 300 := by rw [List.length_take]; omega
        have E1 : Hid (exB0 (onN b b) a b = true) := e1
        have E2 := Lib.hid (ex_one a1.1 b1.1 hg htl)
        clear e1 hcl hg hown htl hlong
        go_wp2_with fail
        refine (known32 _).mono ?_
        rintro e w2 ⟨rfl, hb2⟩
        have hb := below_then hb hb2
        have h := h.grow hb2
        have hci := hci.grow hb2
        clear hb2
        go_wp2_with fail
        refine (lw_ex_is _ (onN b b) b b a b _ _ true _ HA.out rfl E1.out a1 b1 HCL.out.symm (by rw [HCL.out]; omega) hci).mono ?_
        rintro e w3 ⟨rfl, hb3⟩
        have hb := below_then hb hb3
        have h := h.grow hb3
        clear hb3 hci
        go_wp2_with fail
        refine (lw_gcd_is a b 1 _ _ _ HA.out rfl HG.out (by omega) (by omega)).mono ?_
        rintro e w4 ⟨rfl, hb4⟩
        have hb := below_then hb hb4
        have h := h.grow hb4
        clear hb4
        go_wp2_with fail
        refine (lw_gcd_is a b 1 _ _ _ HA.out rfl HG.out (by omega) (by omega)).mono ?_
        rintro e w5 ⟨rfl, hb5⟩
        have hb := below_then hb hb5
        have h := h.grow hb5
        clear hb5
        go_wp2_with fail
        refine (lw_ex_is A (x.take N) c N a b _ _ true _ HA.out rfl E2.out a1 b1 HTL.out HT3 (h.take N)).mono ?_
        rintro e w6 ⟨rfl, hb6⟩
        have hb := below_then hb hb6
        clear hb6
        go_wp2
        go_ret
        exact ⟨rfl, hb⟩
      · have e1 : exB0 (onN b b) a b = false := by rw [e1]; simp [hg1]
        have E1 := Lib.hid e1
        have HCL := Lib.hid hcl
        clear e1 hcl hg hown
        go_wp2_with fail
        refine (known32 _).mono ?_
        rintro e w2 ⟨rfl, hb2⟩
        have hb := below_then hb hb2
        have h := h.grow hb2
        have hci := hci.grow hb2
        clear hb2
        go_wp2_with fail
        refine (lw_ex_is _ (onN b b) b b a b _ _ false _ HA.out rfl E1.out a1 b1 HCL.out.symm (by rw [HCL.out]; omega) hci).mono ?_
        rintro e w3 ⟨rfl, hb3⟩
        have hb := below_then hb hb3
        clear hb3 hci
        go_wp2_with fail
        refine (lw_gcd_is a b g _ _ _ HA.out rfl HG.out (by omega) (by omega)).mono ?_
        rintro e w4 ⟨rfl, hb4⟩
        have hb := below_then hb hb4
        clear hb4
        go_wp2_with fail
        all_goals try (exfalso; omega)
        refine (lw_gcd_is a b g _ _ _ HA.out rfl HG.out (by omega) (by omega)).mono ?_
        rintro e w5 ⟨rfl, hb5⟩
        have hb := below_then hb hb5
        clear hb5
        go_wp2
        all_goals try (exfalso; omega)
        go_ret
        exact ⟨rfl, hb⟩
end Go.Proofs.Ythalkhpdcijlkaa
