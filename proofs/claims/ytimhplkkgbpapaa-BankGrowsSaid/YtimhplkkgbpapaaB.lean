/- The walks of package world: numbers, words, formats. -/
import Derived.Test.YtimhplkkgbpapaaSm
import Derived.Test.YtimhplkkgbpapaaLa
import Derived.Test.YtimhplkkgbpapaaA
import Derived.Deep.RegionHeld3
namespace Go.Proofs.Ytimhplkkgbpapaa
open Go.RowKit

/-- count numbers with absolute values of at most bound, made of a list. -/
def belowF (bound : Int) (l : List Int) (count : Nat) : List Int := (List.range count).map fun (i : Nat) => withinF (wrap64 (atF l i + bound)) (2 * bound + 1) - bound
theorem belowF_succ (bound : Int) (l : List Int) (k : Nat) : belowF bound l (k + 1) = belowF bound l k ++ [withinF (wrap64 (atF l k + bound)) (2 * bound + 1) - bound] := by
  simp [belowF, List.range_succ]
theorem belowF_length (bound : Int) (l : List Int) (k : Nat) : (belowF bound l k).length = k := by simp [belowF]
theorem atF_i64 {l : List Int} (h : ∀ x ∈ l, I64 x) (i : Int) : I64 (atF l i) := by
  unfold atF
  split
  · cases hx : l[i.toNat]? with
    | none => exact ⟨by decide, by decide⟩
    | some x => exact h x (List.mem_of_getElem? hx)
  · exact ⟨by decide, by decide⟩

theorem wd_Below (bound : Int) (A : Option Addr) (l : List Int) (c : Nat) (n : Nat) (w : World) (hb0 : 0 ≤ bound) (hb1 : bound ≤ 1048576) (hn : n ≤ 1000000) (h : Ints w A l) :
    Calls Try.prog 21 #[.int .i64 bound, .slice A l.length c, .int .i64 n] w fun e w' => ∃ v, e = .returned v ∧ Own w.heap.size w' v (belowF bound l n) ∧ Below w.heap.size w w' := by
  go_enter Try.func21, Try.ntmps21
  go_wp2
  go_loopw [7, 8] (fun v i wr => ∃ k : Nat, k ≤ n ∧ i = .int .i64 k ∧ Own w.heap.size wr v (belowF bound l k) ∧ Below w.heap.size w wr) (fun _ i _ => n - (intOf i).toNat)
  case atStart => exact ⟨0, Nat.zero_le _, rfl, Own.nil, Below.refl _ _⟩
  case round =>
    obtain ⟨k, hk, rfl, hown, hbw⟩ := hrel
    by_cases hlt : k < n
    · have HS := Lib.hid (belowF_succ bound l k)
      have hlen := belowF_length bound l k
      obtain ⟨g1, g2⟩ := within_in (m := 2 * bound + 1) (by omega) (wrap64 (atF l k + bound))
      obtain ⟨y, hy⟩ : ∃ y, withinF (wrap64 (atF l k + bound)) (2 * bound + 1) = y := ⟨_, rfl⟩
      have HY := Lib.hid hy
      rw [hy] at g1 g2
      have hlen' : (belowF bound l k).length < 100000000 := by omega
      have hI : I64 (y - bound) := ⟨by omega, by omega⟩
      clear hlen
      go_wp2_with (first
        | (go_at_call 20; refine (wd_At _ _ _ _ _ (h.grow hbw)).mono ?_; rintro e w' ⟨rfl, rfl⟩)
        | (go_at_call 18; refine (wd_Within _ _ _ (by omega)).mono ?_; rintro e w' ⟨rfl, rfl⟩)
        | (at_builtin; refine app_int wr rfl _ _ rfl w.heap.size hown rfl rfl hlen' hbw.size hI ?_; intro v1 w1 hown1 hbel1))
      go_roundw
      case rel => exact ⟨k + 1, by omega, by go_num, by rw [HS.out, HY.out]; exact hown1, hbw.trans hbel1⟩
      case measure => simp [intOf]; omega
    · go_wp2
      go_ret
      obtain rfl : k = n := by omega
      exact ⟨_, rfl, hown, hbw⟩
/-- count words of a format, made of a list. -/
def wordF (b f r o : Int) (x : Int) : Int := lowW b f r o + withinF (wrap64 (x - lowW b f r o)) (highW b f r o - lowW b f r o + 1)
def wordsF (b f r o : Int) (l : List Int) (count : Nat) : List Int := (List.range count).map fun (i : Nat) => wordF b f r o (atF l i)
theorem wordsF_succ (b f r o : Int) (l : List Int) (k : Nat) : wordsF b f r o l (k + 1) = wordsF b f r o l k ++ [wordF b f r o (atF l k)] := by
  simp [wordsF, List.range_succ]
theorem wordsF_length (b f r o : Int) (l : List Int) (k : Nat) : (wordsF b f r o l k).length = k := by simp [wordsF]

end Go.Proofs.Ytimhplkkgbpapaa
