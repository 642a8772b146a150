/- The walk of slices.Index; words for delay lines in the heap. -/
import Derived.Test.YtinjjaahljkhdaaG1
import Derived.Test.YtinjjaahljkhdaaVe
namespace Go.Proofs.Ytinjjaahljkhdaa
open Go.RowKit

/-- The first place of v in l, or -1. -/
def idxV (l : List Int) (v : Int) : Int := match l.findIdx? (fun x => x == v) with | some b => (b : Int) | none => -1
theorem idx_found {l : List Int} {v : Int} {k : Nat} (hk : l[k]? = some v) (h : ∀ j, j < k → l[j]? ≠ some v) : idxV l v = (k : Int) := by
  have e : l.findIdx? (fun x => x == v) = some k := by
    obtain ⟨hb, h1⟩ := List.getElem?_eq_some_iff.1 hk
    refine List.findIdx?_eq_some_iff_getElem.2 ⟨hb, by simp [h1], fun j hj => ?_⟩
    have := h j hj
    rw [List.getElem?_eq_getElem (by omega)] at this
    simpa using this
  unfold idxV
  rw [e]
theorem idx_none {l : List Int} {v : Int} (h : ∀ j, j < l.length → l[j]? ≠ some v) : idxV l v = -1 := by
  have e : l.findIdx? (fun x => x == v) = none := by
    refine List.findIdx?_eq_none_iff.2 fun x hx => ?_
    obtain ⟨j, hj, rfl⟩ := List.getElem_of_mem hx
    have := h j hj
    rw [List.getElem?_eq_getElem hj] at this
    simpa using this
  unfold idxV
  rw [e]
set_option maxRecDepth 100000 in
theorem sl_Index (A : Option Addr) (l : List Int) (c n : Nat) (v : Int) (w : World) (hn : l.length = n) (hl : n ≤ 9223372036854775807) (h : Ints w A l) :
    Calls Try.prog 22 #[.slice A n c, .int .i64 v] w fun e w' => e = .returned (.int .i64 (idxV l v)) ∧ w = w' := by
  have HN := Lib.hid hn
  clear hn
  go_enter Try.func22, Try.ntmps22
  go_wp2
  go_loop [5, 8] (fun _ i => ∃ k : Nat, k ≤ n ∧ i = .int .i64 k ∧ Hid (∀ j, j < k → l[j]? ≠ some v)) (fun _ i => n - (intOf i).toNat)
  case atStart => exact ⟨0, Nat.zero_le _, rfl, fun j hj => absurd hj (Nat.not_lt_zero _)⟩
  case round =>
    obtain ⟨k, hk, rfl, HA⟩ := hrel
    by_cases hlt : k < n
    · obtain ⟨ad, x, rfl, hb, hx, hc, i1, i2⟩ := h.at_ (k := k) (by have := HN.out; omega)
      by_cases he : v = x
      · subst he
        have HI := Lib.hid (idx_found hx HA.out)
        clear hx
        go_wp2
        go_ret
        exact ⟨ret_int HI.out.symm, rfl⟩
      · have HX := Lib.hid hx
        clear hx
        go_wp2
        go_round
        case rel => exact ⟨k + 1, by omega, by go_num, fun j hj e => by
          rcases Nat.lt_or_ge j k with h1 | h1
          · exact HA.out j h1 e
          · obtain rfl : j = k := by omega
            rw [HX.out] at e
            injection e with e
            exact he e.symm⟩
        case measure => simp [intOf]; omega
    · have HI := Lib.hid (idx_none (l := l) (v := v) fun j hj => HA.out j (by have := HN.out; omega))
      go_wp2
      go_ret
      exact ⟨ret_int HI.out.symm, rfl⟩
end Go.Proofs.Ytinjjaahljkhdaa
