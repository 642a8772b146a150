/- The walks of the reference's functions over lists of numbers. -/
import Derived.Test.YtinjjaahljkhdaaFz
import Derived.Test.YtinjjaahljkhdaaS
namespace Go.Proofs.Ytinjjaahljkhdaa
open Go.RowKit

/-- All elements are from -2^bits to 2^bits. -/
def smallB (l : List Int) (bits : Nat) : Bool := l.all fun x => inB x (-2 ^ bits) (2 ^ bits)
/-- All elements are words of a format. -/
def wordsB (b f r o : Int) (l : List Int) : Bool := l.all fun x => fitsW b f r o x

theorem rf_SameInts (A B : Option Addr) (l m : List Int) (c d : Nat) (w : World) (hm : m.length ≤ 9223372036854775807) (h : Ints w A l) (g : Ints w B m) :
    Calls Try.prog 11 #[.slice A l.length c, .slice B m.length d] w fun e w' => e = .returned (.bool (l == m)) ∧ Below w.heap.size w w' := by
  by_cases hlen : l.length = m.length
  · have hlen' : ((l.length : Int) != (m.length : Int)) = false := by simp [hlen]
    have HL := Lib.hid hlen
    have hle : l.length ≤ m.length := by omega
    clear hlen
    go_enter Try.func11, Try.ntmps11
    go_wp2
    go_loopw [5] (fun i wr => ∃ k : Nat, k ≤ l.length ∧ i = .int .i64 k ∧ l.take k = m.take k ∧ Below w.heap.size w wr) (fun i _ => l.length - (intOf i).toNat)
    case atStart => exact ⟨0, Nat.zero_le _, rfl, rfl, Below.refl _ _⟩
    case round =>
      obtain ⟨k, hk, rfl, hall, hbw⟩ := hrel
      by_cases hlt : k < l.length
      · obtain ⟨ad, x, rfl, hb, hx, hc, i1, i2⟩ := h.at_ hlt
        obtain ⟨ad2, y, rfl, hb2, hy, hc2, j1, j2⟩ := g.at_ (k := k) (by omega)
        have q1 := (hbw.cell (p := ad.add k) (by rw [block_add]; exact hb)).trans hc
        have q2 := (hbw.cell (p := ad2.add k) (by rw [block_add]; exact hb2)).trans hc2
        have HS := Lib.hid (take_snoc' hx)
        have HT := Lib.hid (take_snoc' hy)
        have HA := Lib.hid hall
        have HX := Lib.hid hx
        have HY := Lib.hid hy
        clear hall hx hy hc hc2 h g
        by_cases hxy : x = y
        · subst hxy
          go_wp2
          go_quiet (fail)
          go_wp2
          go_roundw
          case rel => exact ⟨k + 1, by omega, by go_num, by rw [HS.out, HT.out, HA.out], below_drewN hbw _⟩
          case measure => simp [intOf]; omega
        · have hne : (x != y) = true := by simp [hxy]
          go_wp2
          go_quiet (fail)
          go_wp2
          go_ret
          refine ⟨ret_bool ?_, below_drewN hbw _⟩
          have h1 := HX.out
          have h2 := HY.out
          symm
          rw [beq_eq_false_iff_ne]
          intro e
          rw [e, h2] at h1
          exact hxy (Option.some.inj h1).symm
      · go_wp2
        go_ret
        refine ⟨ret_bool ?_, hbw⟩
        have h1 := HL.out
        rw [List.take_of_length_le (by omega), List.take_of_length_le (by omega)] at hall
        rw [hall]; simp
  · have hlen' : ((l.length : Int) != (m.length : Int)) = true := by simp; omega
    have hne : (l == m) = false := by simp; intro e; rw [e] at hlen; exact hlen rfl
    have HE := Lib.hid hne
    clear hlen hne
    go_enter Try.func11, Try.ntmps11
    go_wp2
    go_ret
    exact ⟨ret_bool HE.out.symm, Below.refl _ _⟩
/-- The element with the number i, or 0. -/
def atF (l : List Int) (i : Int) : Int := if 0 ≤ i then l[i.toNat]?.getD 0 else 0
theorem atF_nat {l : List Int} {k : Nat} {x : Int} (h : l[k]? = some x) : atF l (k : Int) = x := by
  unfold atF; rw [if_pos (by omega), Int.toNat_natCast, h]; rfl
theorem atF_no {l : List Int} {i : Int} (h : i < 0 ∨ (l.length : Int) ≤ i) : atF l i = 0 := by
  unfold atF
  split
  · rw [List.getElem?_eq_none (by omega)]; rfl
  · rfl
theorem wd_At (A : Option Addr) (l : List Int) (c : Nat) (i : Int) (w : World) (h : Ints w A l) :
    Calls Try.prog 15 #[.slice A l.length c, .int .i64 i] w fun e w' => e = .returned (.int .i64 (atF l i)) ∧ w = w' := by
  by_cases h1 : 0 ≤ i ∧ i < l.length
  · obtain ⟨k, rfl⟩ := Int.eq_ofNat_of_zero_le h1.1
    have h2 : k < l.length := by omega
    obtain ⟨ad, x, rfl, hb, hx, hc, i1, i2⟩ := h.at_ h2
    have HX := Lib.hid (atF_nat hx)
    clear hx h h1
    go_enter Try.func15, Try.ntmps15
    go_wp2
    go_ret
    exact ⟨ret_int HX.out.symm, rfl⟩
  · have HX := Lib.hid (atF_no (l := l) (i := i) (by omega))
    have h2 : 0 ≤ i → (l.length : Int) ≤ i := by omega
    clear h1
    go_enter Try.func15, Try.ntmps15
    go_wp2
    all_goals go_ret
    all_goals exact ⟨ret_int HX.out.symm, rfl⟩
end Go.Proofs.Ytinjjaahljkhdaa
