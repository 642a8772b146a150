/- The walk of fitting of package bank. -/
import Derived.Test.YtimhplkkgbpapaaVf
namespace Go.Proofs.Ytimhplkkgbpapaa
open Go.RowKit

theorem fitB_bad {ll : List (List Int)} {k : Nat} (hk : k + 2 < ll.length) (h : ¬ 2 * lenL ll (k + 1) = lenL ll k) : fitB ll = false := by
  rcases hf : fitB ll with _ | _
  · rfl
  · exact absurd ((fitB_iff.1 hf).2.2.1 k hk) h
theorem fitB_short {ll : List (List Int)} (h : ll.length < 2) : fitB ll = false := by
  rcases hf : fitB ll with _ | _
  · rfl
  · have := (fitB_iff.1 hf).1; omega
theorem fitB_long {ll : List (List Int)} (h : 7 < ll.length) : fitB ll = false := by
  rcases hf : fitB ll with _ | _
  · rfl
  · have := (fitB_iff.1 hf).2.1; omega
theorem fitB_end {ll : List (List Int)} {N : Nat} (hn : ll.length = N + 2) (h7 : N ≤ 5) (h : ∀ j, j < N → 2 * lenL ll (j + 1) = lenL ll j) : fitB ll = ((lenL ll (N + 1) : Int) == (lenL ll N : Int)) := by
  rw [Bool.eq_iff_iff, fitB_iff]
  rw [show ll.length - 1 = N + 1 by omega, show ll.length - 2 = N by omega]
  simp only [beq_iff_eq]
  constructor
  · rintro ⟨_, _, _, h4⟩; omega
  · intro h4; exact ⟨by omega, by omega, fun i hi => h i (by omega), by omega⟩
def BoolB (w : World) (b : Bool) (e : Ending) (w' : World) : Prop := e = .returned (.bool b) ∧ Below w.heap.size w w'
set_option maxRecDepth 100000 in
set_option maxHeartbeats 2000000 in
theorem bk_fitting (A : Option Addr) (ll : List (List Int)) (c n : Nat) (w : World) (h : IntsL w A ll) (hn : n = ll.length) (hl2 : ∀ l ∈ ll, l.length ≤ 1000000) (hl : n ≤ 1000000) :
    Calls Try.prog 32 #[.slice A n c] w (BoolB w (fitB ll)) := by
  have HN := Lib.hid hn
  have HL2 := Lib.hid hl2
  have HA := Lib.hid (fun (k : Nat) (hk : k < n) => h.at_ (k := k) (by omega))
  have HI := Lib.hid h
  clear hn hl2 h
  by_cases n2 : n < 2
  · rw [fitB_short (by have := HN.out; omega)]
    have d1 : decide ((n : Int) < 2) = true := by simp; omega
    go_enter Try.func32, Try.ntmps32
    go_wp2
    go_ret
    exact ⟨rfl, Below.refl _ _⟩
  · by_cases n7 : 7 < n
    · rw [fitB_long (by have := HN.out; omega)]
      have d1 : decide ((n : Int) < 2) = false := by simp; omega
      have d2 : decide ((7 : Int) < (n : Int)) = true := by simp; omega
      go_enter Try.func32, Try.ntmps32
      go_wp2
      go_ret
      exact ⟨rfl, Below.refl _ _⟩
    · obtain ⟨N, rfl⟩ : ∃ N, n = N + 2 := ⟨n - 2, by omega⟩
      obtain ⟨M, hM⟩ : ∃ M, N + 2 = M := ⟨_, rfl⟩
      obtain ⟨l, hl0⟩ : ∃ l, N + 1 = l := ⟨_, rfl⟩
      have d1 : decide ((M : Int) < 2) = false := by simp; omega
      have d2 : decide ((7 : Int) < (M : Int)) = false := by simp; omega
      have e1 : IntKind.i64.wrap ((M : Int) - 1) = (l : Int) := by rw [IntWalk.i64_in _ (by omega)]; omega
      have m7 : M ≤ 7 := by omega
      have HM := Lib.hid hM
      have HLL := Lib.hid hl0
      rw [hM]
      clear n2 n7 hM hl0 hl
      go_enter Try.func32, Try.ntmps32
      go_wp2
      go_loopw [4] (fun i wr => ∃ k I : Nat, I = k + 1 ∧ k ≤ N ∧ i = .int .i64 I ∧ (∀ j, j < k → 2 * lenL ll (j + 1) = lenL ll j) ∧ Below w.heap.size w wr) (fun i _ => N + 2 - (intOf i).toNat)
      case atStart => exact ⟨0, 1, rfl, Nat.zero_le _, rfl, fun j hj => absurd hj (Nat.not_lt_zero _), Below.refl _ _⟩
      case round =>
        obtain ⟨k, I, hI, hk, rfl, hall, hbw⟩ := hrel
        by_cases hlt : k < N
        · obtain ⟨ad, l1, B1, c1, rfl, hb1, hg1, hc1, _⟩ := HA.out I (by have := HM.out; omega)
          obtain ⟨ad', l0, B0, c0, e, hb0, hg0, hc0, _⟩ := HA.out k (by have := HM.out; omega)
          injection e with e
          subst e
          have q1 := lenL_get hg1
          have q0 := lenL_get hg0
          have t1 := HL2.out l1 (List.mem_of_getElem? hg1)
          have t0 := HL2.out l0 (List.mem_of_getElem? hg0)
          obtain ⟨a, ha⟩ : ∃ a, l1.length = a := ⟨_, rfl⟩
          obtain ⟨b, hb⟩ : ∃ b, l0.length = b := ⟨_, rfl⟩
          rw [ha] at hc1 q1 t1
          rw [hb] at hc0 q0 t0
          have hc1 := (hbw.cell (by rw [block_add]; exact hb1)).trans hc1
          have hc0 := (hbw.cell (by rw [block_add]; exact hb0)).trans hc0
          have HI1 := Lib.hid hI
          have HQ : Hid (2 * lenL ll (k + 1) = lenL ll k ↔ 2 * a = b) := by show _ ↔ _; rw [← hI, q1, q0]
          have HALL := Lib.hid hall
          have HBW := Lib.hid hbw
          have x1 : (I : Int) < (l : Int) := by have := HLL.out; omega
          have x2 : (0 : Int) ≤ (I : Int) := by omega
          have x3 : (I : Int) < (M : Int) := by have := HM.out; omega
          have x4 : IntKind.i64.wrap ((I : Int) - 1) = (k : Int) := by rw [IntWalk.i64_in _ (by omega)]; omega
          have x5 : (0 : Int) ≤ (k : Int) := by omega
          have x6 : (k : Int) < (M : Int) := by have := HM.out; omega
          have x7 : IntKind.i64.wrap (2 * (a : Int)) = 2 * (a : Int) := IntWalk.i64_in _ (by omega)
          have i7 : I ≤ 7 := by omega
          clear hg1 hg0 q1 q0 ha hb hI hall hbw
          by_cases heq : 2 * a = b
          · have x8 : (2 * (a : Int) = (b : Int)) := by omega
            go_wp2
            go_region
            clear x1 x3 x4 x5 x6 x7 x8
            go_wp2
            go_roundw
            case rel => exact ⟨k + 1, I + 1, by have := HI1.out; omega, Nat.succ_le_of_lt hlt, by go_num, fun j hj => by
              rcases Nat.lt_or_ge j k with h | h
              · exact HALL.out j h
              · obtain rfl : j = k := by omega
                exact HQ.out.2 heq, HBW.out.drew⟩
            case measure => simp [intOf]; have := HI1.out; omega
          · have x8 : ¬ (2 * (a : Int) = (b : Int)) := by omega
            have HFB := Lib.hid (fitB_bad (ll := ll) (k := k) (by have := HN.out; omega) (fun h => heq (HQ.out.1 h)))
            go_wp2
            go_region
            clear x1 x3 x4 x5 x6 x7 x8
            go_wp2
            go_ret
            exact ⟨by rw [HFB.out]; rfl, HBW.out.drew⟩
        · obtain rfl : k = N := by omega
          obtain rfl : I = l := by have := HLL.out; omega
          obtain ⟨ad, l1, B1, c1, rfl, hb1, hg1, hc1, _⟩ := HA.out I (by have := HM.out; omega)
          obtain ⟨ad', l0, B0, c0, e, hb0, hg0, hc0, _⟩ := HA.out k (by have := HM.out; omega)
          injection e with e
          subst e
          have q1 := lenL_get hg1
          have q0 := lenL_get hg0
          obtain ⟨a, ha⟩ : ∃ a, l1.length = a := ⟨_, rfl⟩
          obtain ⟨b, hb⟩ : ∃ b, l0.length = b := ⟨_, rfl⟩
          rw [ha] at hc1 q1
          rw [hb] at hc0 q0
          have hc1 := (hbw.cell (by rw [block_add]; exact hb1)).trans hc1
          have hc0 := (hbw.cell (by rw [block_add]; exact hb0)).trans hc0
          have HE : Hid (fitB ll = ((a : Int) == (b : Int))) := by
            show _ = _
            rw [fitB_end HN.out.symm (by have := HM.out; omega) hall, ← hI, q1, q0]
          have HBW := Lib.hid hbw
          have x2 : (0 : Int) ≤ (I : Int) := by omega
          have x3 : (I : Int) < (M : Int) := by have := HM.out; omega
          have x4 : IntKind.i64.wrap ((I : Int) - 1) = (k : Int) := by have := HM.out; rw [IntWalk.i64_in _ (by omega)]; omega
          have x5 : (0 : Int) ≤ (k : Int) := by omega
          have x6 : (k : Int) < (M : Int) := by have := HM.out; omega
          clear hg1 hg0 q1 q0 ha hb hI hall hbw
          go_wp2
          go_region
          clear x3 x4 x5 x6
          go_wp2
          go_ret
          exact ⟨by rw [HE.out]; rfl, HBW.out.drew⟩
end Go.Proofs.Ytimhplkkgbpapaa
