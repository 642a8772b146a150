/- The walks of the reference's functions over lists of numbers. -/
import Derived.Test.YtenpffjbgpapmaaFz
import Derived.Test.YtenpffjbgpapmaaS
namespace Go.Proofs.Ytenpffjbgpapmaa
open Go.RowKit

/-- All elements are from -2^bits to 2^bits. -/
def smallB (l : List Int) (bits : Nat) : Bool := l.all fun x => inB x (-2 ^ bits) (2 ^ bits)
/-- All elements are words of a format. -/
def wordsB (b f r o : Int) (l : List Int) : Bool := l.all fun x => fitsW b f r o x

theorem rf_Small (A : Option Addr) (l : List Int) (c : Nat) (n : Nat) (w : World) (hn : n ≤ 60) (hl : l.length ≤ 9223372036854775807) (h : Ints w A l) :
    Calls Try.prog 38 #[.slice A l.length c, .int .i64 n] w fun e w' => e = .returned (.bool (smallB l n)) ∧ w = w' := by
  have p1 := w64_pow (n := n) (by omega)
  have p2 : wrap64 (-2 ^ n) = -2 ^ n := w64_in (by have := pow_62 (n := n) (by omega); omega) (by have := pow_pos' n; omega)
  go_enter Try.func38, Try.ntmps38
  go_wp2
  go_loop [5] (fun i => ∃ k : Nat, k ≤ l.length ∧ i = .int .i64 k ∧ (l.take k).all (fun x => inB x (-2 ^ n) (2 ^ n)) = true) (fun i => l.length - (intOf i).toNat)
  case atStart => exact ⟨0, Nat.zero_le _, rfl, rfl⟩
  case round =>
    obtain ⟨k, hk, rfl, hall⟩ := hrel
    by_cases hlt : k < l.length
    · obtain ⟨ad, x, rfl, hb, hx, hc, i1, i2⟩ := h.at_ hlt
      have hs := take_succ_all hx (fun x => inB x (-2 ^ n) (2 ^ n))
      have hno := all_no hx (p := fun x => inB x (-2 ^ n) (2 ^ n))
      have HS := Lib.hid hs
      have HN := Lib.hid hno
      have HA := Lib.hid hall
      have HX := Lib.hid hx
      clear hs hno hall hx h
      rcases Bool.eq_false_or_eq_true (inB x (-2 ^ n) (2 ^ n)) with hin | hin
      · go_wp2_with (go_at_call 37; refine (rf_In _ _ _ _).mono ?_; rintro e w' ⟨rfl, rfl⟩)
        go_round
        case rel => exact ⟨k + 1, by omega, by go_num, by rw [HS.out, HA.out, hin]; rfl⟩
        case measure => simp [intOf]; omega
      · go_wp2_with (go_at_call 37; refine (rf_In _ _ _ _).mono ?_; rintro e w' ⟨rfl, rfl⟩)
        go_ret
        exact ⟨ret_bool (HN.out hin).symm, rfl⟩
    · go_wp2
      go_ret
      exact ⟨ret_bool (by rw [List.take_of_length_le (by omega)] at hall; exact hall.symm), rfl⟩
/-- The element with the number i, or 0. -/
def atF (l : List Int) (i : Int) : Int := if 0 ≤ i then l[i.toNat]?.getD 0 else 0
theorem atF_nat {l : List Int} {k : Nat} {x : Int} (h : l[k]? = some x) : atF l (k : Int) = x := by
  unfold atF; rw [if_pos (by omega), Int.toNat_natCast, h]; rfl
theorem atF_no {l : List Int} {i : Int} (h : i < 0 ∨ (l.length : Int) ≤ i) : atF l i = 0 := by
  unfold atF
  split
  · rw [List.getElem?_eq_none (by omega)]; rfl
  · rfl
theorem wd_At (A : Option Addr) (l : List Int) (c : Nat) (i : Int) (w : World) (h : Ints w A l) :
    Calls Try.prog 41 #[.slice A l.length c, .int .i64 i] w fun e w' => e = .returned (.int .i64 (atF l i)) ∧ w = w' := by
  by_cases h1 : 0 ≤ i ∧ i < l.length
  · obtain ⟨k, rfl⟩ := Int.eq_ofNat_of_zero_le h1.1
    have h2 : k < l.length := by omega
    obtain ⟨ad, x, rfl, hb, hx, hc, i1, i2⟩ := h.at_ h2
    have HX := Lib.hid (atF_nat hx)
    clear hx h h1
    go_enter Try.func41, Try.ntmps41
    go_wp2
    go_ret
    exact ⟨ret_int HX.out.symm, rfl⟩
  · have HX := Lib.hid (atF_no (l := l) (i := i) (by omega))
    have h2 : 0 ≤ i → (l.length : Int) ≤ i := by omega
    clear h1
    go_enter Try.func41, Try.ntmps41
    go_wp2
    all_goals go_ret
    all_goals exact ⟨ret_int HX.out.symm, rfl⟩
end Go.Proofs.Ytenpffjbgpapmaa
