/- The walks of wide and known of law 33. -/
import Derived.Test.YtimhplkkgbpapaaV7
import Derived.Test.YtimhplkkgbpapaaB
namespace Go.Proofs.Ytimhplkkgbpapaa
open Go.RowKit

def wdF (x : List Int) (k : Nat) : List Int := (List.range k).map fun i => wrapF 32 (el x i)
theorem wdF_length (x : List Int) (k : Nat) : (wdF x k).length = k := by simp [wdF]
theorem wdF_succ (x : List Int) (k : Nat) : wdF x (k + 1) = wdF x k ++ [wrapF 32 (el x k)] := by simp [wdF, List.range_succ]
theorem wdF_w32 (x : List Int) (k : Nat) : W32 (wdF x k) := by
  intro y hy
  obtain ⟨i, _, rfl⟩ := List.mem_map.1 hy
  exact w32_wrap _
def wdN (x : List Int) : Nat := min (2 * (x.length / 2)) 40
theorem wdN_even (x : List Int) : ∃ h, wdN x = 2 * h ∧ h ≤ 20 := ⟨min (x.length / 2) 20, by unfold wdN; omega, by omega⟩

theorem l33_wide (A : Option Addr) (x : List Int) (c : Nat) (w : World) (hl : x.length ≤ 9223372036854775807) (h : Ints w A x) :
    Calls Try.prog 8 #[.slice A x.length c] w (RetInts1 w (wdF x (wdN x))) := by
  obtain ⟨q, hq⟩ : ∃ q : Nat, x.length / 2 = q := ⟨_, rfl⟩
  have l1 : (x.length : Int) / 2 = (q : Int) := by omega
  have l2 : (x.length : Int).tdiv 2 = (q : Int) := by rw [Int.tdiv_eq_ediv_of_nonneg (by omega)]; exact l1
  have hq2 : q ≤ 4611686018427387903 := by omega
  have hq3 : 2 * q ≤ x.length := by omega
  have HN : Hid (wdN x = min (2 * q) 40) := by rw [← hq]; exact rfl
  clear hq
  go_enter Try.func8, Try.ntmps8
  go_wp2
  go_loopw [3, 4] (fun v i wr => ∃ k : Nat, k ≤ min (2 * q) 40 ∧ i = .int .i64 k ∧ Own w.heap.size wr v (wdF x k) ∧ Below w.heap.size w wr) (fun _ i _ => 40 - (intOf i).toNat)
  case atStart => exact ⟨0, Nat.zero_le _, rfl, Own.nil, Below.refl _ _⟩
  case round =>
    obtain ⟨k, hk, rfl, hown, hbw⟩ := hrel
    have k1 : k ≤ 40 := by omega
    have k2 : k ≤ 2 * q := by omega
    clear hk
    by_cases h1 : k < 2 * q
    · by_cases h2 : k < 40
      · have HS := Lib.hid (wdF_succ x k)
        have hlen := wdF_length x k
        have hlen' : (wdF x k).length < 100000000 := by omega
        obtain ⟨ad, y, rfl, hb, hy, hc, y1, y2⟩ := (h.grow hbw).at_ (k := k) (by omega)
        have HE : Hid (el x k = y) := by unfold el; rw [hy]; exact rfl
        obtain ⟨z, hz⟩ : ∃ z, wrapF 32 y = z := ⟨_, rfl⟩
        obtain ⟨g1, g2⟩ := w32_wrap y
        rw [hz] at g1 g2
        have HZ := Lib.hid hz
        have hI : I64 z := ⟨by omega, by omega⟩
        clear hlen hy hz
        have d1 : decide ((k : Int) < (q : Int) * 2) = true := by simp; omega
        have d2 : decide ((k : Int) < 40) = true := by simp; omega
        go_wp2_with (first
          | (go_at_call 19; refine (rf_Wrap 32 y _).mono ?_; rintro e w' ⟨rfl, rfl⟩; rw [HZ.out])
          | (at_builtin; refine app_int wr rfl _ _ rfl w.heap.size hown rfl rfl hlen' hbw.size hI ?_; intro v1 w1 hown1 hbel1))
        go_roundw
        case rel => exact ⟨k + 1, by omega, by go_num, by rw [HS.out, HE.out, HZ.out]; exact hown1, hbw.trans hbel1⟩
        case measure => simp [intOf]; omega
      · have hN : wdN x = k := by rw [HN.out]; omega
        have HN := Lib.hid hN
        clear hN
        have d1 : decide ((k : Int) < (q : Int) * 2) = true := by simp; omega
        have d2 : decide ((k : Int) < 40) = false := by simp; omega
        go_wp2
        go_ret
        rw [HN.out]
        exact .mk hown hbw
    · have hN : wdN x = k := by rw [HN.out]; omega
      have HN := Lib.hid hN
      clear hN
      obtain rfl : k = 2 * q := by omega
      go_wp2
      go_ret
      rw [HN.out]
      exact .mk hown hbw
theorem Lifts.lit2 {w : World} {n g1 g2 : Nat} {b1 b2 : Bool} {s1 s2 h1 h2 : Int} {c1 c2 : List Int} {d1 d2 : Nat} {t : TypeId} (hn : n = w.heap.size) (i1 : Ints w (some ⟨g1, 0, none⟩) c1) (i2 : Ints w (some ⟨g2, 0, none⟩) c2) (a1 : I64 s1) (a2 : I64 s2) (a3 : I64 h1) (a4 : I64 h2) :
    Lifts (w.alloc (.cells #[.bool b1, .int .i64 s1, .slice (some ⟨g1, 0, none⟩) c1.length d1, .int .i64 h1, .bool b2, .int .i64 s2, .slice (some ⟨g2, 0, none⟩) c2.length d2, .int .i64 h2] t)) (some ⟨n, 0, none⟩) [(b1, s1, c1, h1), (b2, s2, c2, h2)] := fun k s hk => by
  subst hn
  match k, hk with
  | 0, hk =>
    simp at hk
    subst hk
    exact ⟨_, _, _, rfl, by simp, by simp [Addr.add, go_sem], by simp [Addr.add, go_sem], by simp [Addr.add, go_sem]; rfl, by simp [Addr.add, go_sem], i1.grow ((Below.refl _ _).alloc (Nat.le_refl _) _), a1, a3⟩
  | 1, hk =>
    simp at hk
    subst hk
    exact ⟨_, _, _, rfl, by simp, by simp [Addr.add, go_sem], by simp [Addr.add, go_sem], by simp [Addr.add, go_sem]; rfl, by simp [Addr.add, go_sem], i2.grow ((Below.refl _ _).alloc (Nat.le_refl _) _), a2, a4⟩
theorem rf_SameB (A B : Option Addr) (l m : List Int) (c d : Nat) (w : World) (hm : m.length ≤ 9223372036854775807) (he : l = m) (h : Ints w A l) (g : Ints w B m) :
    Calls Try.prog 11 #[.slice A l.length c, .slice B m.length d] w fun e w' => e = .returned (.bool true) ∧ Below w.heap.size w w' :=
  (rf_SameInts A B l m c d w hm h g).mono fun e w' hh => ⟨by rw [hh.1, he]; simp, hh.2⟩
theorem add_cellsB (g k : Nat) : (⟨g, 0, none⟩ : Addr).add k = ⟨g, k, none⟩ := by
  unfold Addr.add
  by_cases h0 : k = 0 <;> simp [h0]
theorem litB {w : World} {cs : Array Value} {t : TypeId} {l : List Int} (hc : cs.toList = l.map (Value.int .i64)) (hl : l.all (fun x => decide (-9223372036854775808 ≤ x) && decide (x ≤ 9223372036854775807)) = true) : Ints (w.alloc (.cells cs t)) (some ⟨w.heap.size, 0, none⟩) l := by
  refine ⟨?_, fun x hx => by have := List.all_eq_true.1 hl x hx; simp at this; exact this⟩
  rw [← hc]
  intro k v hk
  refine ⟨_, rfl, by simp, ?_⟩
  rw [add_cellsB]
  simpa [go_sem] using hk
theorem belowA {W w : World} {o : Obj} (h : Below W.heap.size W w) : Below W.heap.size W (w.alloc o) := h.alloc h.size _
theorem litBn {w : World} {n : Nat} {cs : Array Value} {t : TypeId} {l : List Int} (hn : n = w.heap.size) (hc : cs.toList = l.map (Value.int .i64)) (hl : l.all (fun x => decide (-9223372036854775808 ≤ x) && decide (x ≤ 9223372036854775807)) = true) : Ints (w.alloc (.cells cs t)) (some ⟨n, 0, none⟩) l := by
  subst hn; exact litB hc hl
set_option maxRecDepth 100000 in
set_option maxHeartbeats 400000 in
theorem known33 (w : World) : Calls Try.prog 9 #[] w fun e w' => e = .returned (.bool true) ∧ Below w.heap.size w w' := by
  have hb := Below.refl w.heap.size w
  go_enter Try.func9, Try.ntmps9
  go_wp2_with fail
  have H1 : Ints (w.alloc (.cells #[.int .i64 (-1)] 3)) (some ⟨w.heap.size, 0, none⟩) [-1] := litB rfl (by decide)
  have H1 := H1.grow (belowA (o := .cells #[.int .i64 1] 3) (Below.refl _ _))
  have H2 : Ints ((w.alloc (.cells #[.int .i64 (-1)] 3)).alloc (.cells #[.int .i64 1] 3)) (some ⟨w.heap.size + 1, 0, none⟩) [1] := litBn (by simp) rfl (by decide)
  have HL : Lifts (((w.alloc (.cells #[.int .i64 (-1)] 3)).alloc (.cells #[.int .i64 1] 3)).alloc (.cells #[.bool true, .int .i64 0, .slice (some ⟨w.heap.size, 0, none⟩) 1 1, .int .i64 0, .bool false, .int .i64 0, .slice (some ⟨w.heap.size + 1, 0, none⟩) 1 1, .int .i64 1] 48)) (some ⟨w.heap.size + 1 + 1, 0, none⟩) [(true, 0, [-1], 0), (false, 0, [1], 1)] := Lifts.lit2 (by simp) H1 H2 ⟨by decide, by decide⟩ ⟨by decide, by decide⟩ ⟨by decide, by decide⟩ ⟨by decide, by decide⟩
  have HL := HL.grow (belowA (o := .cells #[.int .i64 5, .int .i64 8] 3) (Below.refl _ _))
  have HX : Ints ((((w.alloc (.cells #[.int .i64 (-1)] 3)).alloc (.cells #[.int .i64 1] 3)).alloc (.cells #[.bool true, .int .i64 0, .slice (some ⟨w.heap.size, 0, none⟩) 1 1, .int .i64 0, .bool false, .int .i64 0, .slice (some ⟨w.heap.size + 1, 0, none⟩) 1 1, .int .i64 1] 48)).alloc (.cells #[.int .i64 5, .int .i64 8] 3)) (some ⟨w.heap.size + 1 + 1 + 1, 0, none⟩) [5, 8] := litBn (by simp) rfl (by decide)
  refine (bk_Analyse _ _ [(true, 0, [-1], 0), (false, 0, [1], 1)] [5, 8] 2 2 _ HL HX (by decide) (by decide) (by decide)).mono ?_
  rintro e w1 ⟨v1, v2, rfl, o1, o2, hb1⟩
  have hb := below_then (belowA (belowA (belowA (belowA hb)))) hb1
  have e1 : anLo [(true, 0, [-1], 0), (false, 0, [1], 1)] [5, 8] = [6] := by decide +kernel
  have e2 : anHi [(true, 0, [-1], 0), (false, 0, [1], 1)] [5, 8] = [3] := by decide +kernel
  have e3 : anE [(true, 0, [-1], 0), (false, 0, [1], 1)] [5, 8] = 0 := by decide +kernel
  rw [e1] at o1
  rw [e2] at o2
  rw [e3]
  obtain ⟨A1, c1, rfl, _, hi1⟩ := o1.form
  obtain ⟨A2, c2, rfl, _, hi2⟩ := o2.form
  clear hb1 HL HX H1 H2 e1 e2 e3 o1 o2
  go_wp2_with fail
  have hL : Ints (w1.alloc (.cells #[.int .i64 6] 3)) (some ⟨w1.heap.size, 0, none⟩) [6] := litB rfl (by decide)
  refine (rf_SameB _ _ [6] [6] _ _ _ (by decide) rfl (hi1.grow (belowA (Below.refl _ _))) hL).mono ?_
  rintro e w2 ⟨rfl, hb2⟩
  have hb := below_then (belowA hb) hb2
  have hi2 := hi2.grow (below_then (belowA (Below.refl _ _)) hb2)
  clear hb2 hL
  go_wp2_with fail
  have hL : Ints (w2.alloc (.cells #[.int .i64 3] 3)) (some ⟨w2.heap.size, 0, none⟩) [3] := litB rfl (by decide)
  refine (rf_SameB _ _ [3] [3] _ _ _ (by decide) rfl (hi2.grow (belowA (Below.refl _ _))) hL).mono ?_
  rintro e w3 ⟨rfl, hb3⟩
  have hb := below_then (belowA hb) hb3
  clear hb3 hL
  go_wp2
  go_ret
  exact ⟨rfl, hb⟩
end Go.Proofs.Ytimhplkkgbpapaa
