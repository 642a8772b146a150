/- The walks of package world: numbers, words, formats. -/
import Derived.Test.YtinjjaahljkhdaaSm
import Derived.Test.YtinjjaahljkhdaaLa
import Derived.Test.YtinjjaahljkhdaaA
import Derived.Deep.RegionHeld3
namespace Go.Proofs.Ytinjjaahljkhdaa
open Go.RowKit

/-- count numbers with absolute values of at most bound, made of a list. -/
def belowF (bound : Int) (l : List Int) (count : Nat) : List Int := (List.range count).map fun (i : Nat) => withinF (wrap64 (atF l i + bound)) (2 * bound + 1) - bound
theorem belowF_succ (bound : Int) (l : List Int) (k : Nat) : belowF bound l (k + 1) = belowF bound l k ++ [withinF (wrap64 (atF l k + bound)) (2 * bound + 1) - bound] := by
  simp [belowF, List.range_succ]
theorem belowF_length (bound : Int) (l : List Int) (k : Nat) : (belowF bound l k).length = k := by simp [belowF]
theorem atF_i64 {l : List Int} (h : ∀ x ∈ l, I64 x) (i : Int) : I64 (atF l i) := by
  unfold atF
  split
  · cases hx : l[i.toNat]? with
    | none => exact ⟨by decide, by decide⟩
    | some x => exact h x (List.mem_of_getElem? hx)
  · exact ⟨by decide, by decide⟩

/-- count words of a format, made of a list. -/
def wordF (b f r o : Int) (x : Int) : Int := lowW b f r o + withinF (wrap64 (x - lowW b f r o)) (highW b f r o - lowW b f r o + 1)
def wordsF (b f r o : Int) (l : List Int) (count : Nat) : List Int := (List.range count).map fun (i : Nat) => wordF b f r o (atF l i)
theorem wordsF_succ (b f r o : Int) (l : List Int) (k : Nat) : wordsF b f r o l (k + 1) = wordsF b f r o l k ++ [wordF b f r o (atF l k)] := by
  simp [wordsF, List.range_succ]
theorem wordsF_length (b f r o : Int) (l : List Int) (k : Nat) : (wordsF b f r o l k).length = k := by simp [wordsF]

theorem wd_Words (b f r o : Int) (A : Option Addr) (l : List Int) (c : Nat) (n : Nat) (w : World) (hn : n ≤ 1000000) (h : Ints w A l) :
    Calls Try.prog 14 #[wordV b f r o, .slice A l.length c, .int .i64 n] w fun e w' => ∃ v, e = .returned v ∧ Own w.heap.size w' v (wordsF b f r o l n) ∧ Below w.heap.size w w' := by
  go_enter Try.func14, Try.ntmps14
  go_wp2
  go_loopw [7, 8] (fun v i wr => ∃ k : Nat, k ≤ n ∧ i = .int .i64 k ∧ Own (w.heap.size + 1) wr v (wordsF b f r o l k) ∧ Below (w.heap.size + 1) (w.alloc (.cells #[.int .i64 b, .int .i64 f, .int .i64 r, .int .i64 o] 23)) wr) (fun _ i _ => n - (intOf i).toNat)
  case atStart => exact ⟨0, Nat.zero_le _, rfl, Own.nil, Below.refl _ _⟩
  case round =>
    obtain ⟨k, hk, rfl, hown, hbw⟩ := hrel
    by_cases hlt : k < n
    · have HS := Lib.hid (wordsF_succ b f r o l k)
      have hlen' : (wordsF b f r o l k).length < 100000000 := by rw [wordsF_length]; omega
      obtain ⟨L, hL⟩ : ∃ L, lowW b f r o = L := ⟨_, rfl⟩
      obtain ⟨H, hH⟩ : ∃ H, highW b f r o = H := ⟨_, rfl⟩
      obtain ⟨q1, q2, q3, q4⟩ := low_high b f r o
      rw [hL] at q1 q2
      rw [hH] at q3 q4
      obtain ⟨g1, g2⟩ := within_in (m := H - L + 1) (by omega) (wrap64 (atF l k - L))
      obtain ⟨y, hy⟩ : ∃ y, withinF (wrap64 (atF l k - L)) (H - L + 1) = y := ⟨_, rfl⟩
      have HY : Hid (wordF b f r o (atF l k) = L + y) := by unfold wordF; rw [hL, hH, hy]; exact rfl
      rw [hy] at g1 g2
      have hI : I64 (L + y) := ⟨by omega, by omega⟩
      have hsz : w.heap.size + 1 ≤ wr.drew.heap.size := by have := hbw.size; simp at this; show _ ≤ wr.heap.size; omega
      have hbw2 := hbw.drew
      have hown2 : Own (w.heap.size + 1) wr.drew _ _ := hown
      have hm : H - L + 1 ≤ 9223372036854775807 := by omega
      obtain ⟨X, hX⟩ : ∃ X, IntKind.i64.wrap (atF l k - L) = X := ⟨_, rfl⟩
      have hy2 : withinF X (H - L + 1) = y := by rw [← hX, IntKind.wrap_i64]; unfold wrap64 at hy; exact hy
      have e1 : IntKind.i64.wrap (H - L) = H - L := IntWalk.i64_in _ (by omega)
      have e2 : IntKind.i64.wrap (H - L + 1) = H - L + 1 := IntWalk.i64_in _ (by omega)
      have e3 : IntKind.i64.wrap (L + y) = L + y := IntWalk.i64_in _ (by omega)
      clear hown hbw hy
      go_wp2_with fail
      go_region_held3 (fun w' => (w'.cell? ⟨w.heap.size, 0, none⟩ = some (.int .i64 b) ∧ w'.cell? ⟨w.heap.size, 1, none⟩ = some (.int .i64 f) ∧ w'.cell? ⟨w.heap.size, 2, none⟩ = some (.int .i64 r) ∧ w'.cell? ⟨w.heap.size, 3, none⟩ = some (.int .i64 o)))
        (first | exact box4_S (by assumption) | exact box4_S (hbw2.alloc hsz _))
        (first
          | (go_at_call 25; refine (rf_Low _ _ _ _ _).mono ?_; rintro e w1 ⟨rfl, hb1⟩; have hown2 := hown2.grow hb1; have hbw2 := hbw2.trans (hb1.mono hsz); have hsz := Nat.le_trans hsz hb1.size)
          | (go_at_call 26; refine (rf_High _ _ _ _ _).mono ?_; rintro e w1 ⟨rfl, hb1⟩; have hown2 := hown2.grow hb1; have hbw2 := hbw2.trans (hb1.mono hsz); have hsz := Nat.le_trans hsz hb1.size)
          | (go_at_call 15; refine (wd_At _ _ _ _ _ (h.grow (below_box hbw2))).mono ?_; rintro e w1 ⟨rfl, rfl⟩)
          | (go_at_call 13; refine (wd_Within _ _ _ hm).mono ?_; rintro e w1 ⟨rfl, rfl⟩)
          | ((with_reducible refine step_app_int _ rfl (.tmp 14) (.tmp 31) rfl (w.heap.size + 1) hown2 ?_ ?_ ?_ hlen' hsz hI ?_); (exact rfl); (exact rfl); (exact rfl); intro v1 w1 hown3 hbel1; have hbw2 := hbw2.trans hbel1))
      clear e1 e2 e3 hX hy2
      go_wp2
      go_roundw
      case rel => exact ⟨k + 1, by omega, by go_num, by rw [HS.out, HY.out]; exact hown3, hbw2⟩
      case measure => simp [intOf]; omega
    · go_wp2
      go_ret
      obtain rfl : k = n := by omega
      exact ⟨_, rfl, hown.base (by omega), below_box hbw⟩
end Go.Proofs.Ytinjjaahljkhdaa
