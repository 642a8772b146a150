/- The walks of the reference's functions over lists of numbers. -/
import Derived.Test.YtlomhaabiodofaaFz
import Derived.Test.YtlomhaabiodofaaS
namespace Go.Proofs.Ytlomhaabiodofaa
open Go.RowKit

/-- All elements are from -2^bits to 2^bits. -/
def smallB (l : List Int) (bits : Nat) : Bool := l.all fun x => inB x (-2 ^ bits) (2 ^ bits)
/-- All elements are words of a format. -/
def wordsB (b f r o : Int) (l : List Int) : Bool := l.all fun x => fitsW b f r o x

theorem rf_Small (A : Option Addr) (l : List Int) (c : Nat) (n : Nat) (w : World) (hn : n ≤ 60) (hl : l.length ≤ 9223372036854775807) (h : Ints w A l) :
    Calls Try.prog 38 #[.slice A l.length c, .int .i64 n] w fun e w' => e = .returned (.bool (smallB l n)) ∧ w = w' := by
  have p1 := w64_pow (n := n) (by omega)
  have p2 : wrap64 (-2 ^ n) = -2 ^ n := w64_in (by have := pow_62 (n := n) (by omega); omega) (by have := pow_pos' n; omega)
  go_enter Try.func38, Try.ntmps38
  go_wp2
  go_loop [5] (fun i => ∃ k : Nat, k ≤ l.length ∧ i = .int .i64 k ∧ (l.take k).all (fun x => inB x (-2 ^ n) (2 ^ n)) = true) (fun i => l.length - (intOf i).toNat)
  case atStart => exact ⟨0, Nat.zero_le _, rfl, rfl⟩
  case round =>
    obtain ⟨k, hk, rfl, hall⟩ := hrel
    by_cases hlt : k < l.length
    · obtain ⟨ad, x, rfl, hb, hx, hc, i1, i2⟩ := h.at_ hlt
      have hs := take_succ_all hx (fun x => inB x (-2 ^ n) (2 ^ n))
      have hno := all_no hx (p := fun x => inB x (-2 ^ n) (2 ^ n))
      have HS := Lib.hid hs
      have HN := Lib.hid hno
      have HA := Lib.hid hall
      have HX := Lib.hid hx
      clear hs hno hall hx h
      rcases Bool.eq_false_or_eq_true (inB x (-2 ^ n) (2 ^ n)) with hin | hin
      · go_wp2_with (go_at_call 47; refine (rf_In _ _ _ _).mono ?_; rintro e w' ⟨rfl, rfl⟩)
        go_round
        case rel => exact ⟨k + 1, by omega, by go_num, by rw [HS.out, HA.out, hin]; rfl⟩
        case measure => simp [intOf]; omega
      · go_wp2_with (go_at_call 47; refine (rf_In _ _ _ _).mono ?_; rintro e w' ⟨rfl, rfl⟩)
        go_ret
        exact ⟨ret_bool (HN.out hin).symm, rfl⟩
    · go_wp2
      go_ret
      exact ⟨ret_bool (by rw [List.take_of_length_le (by omega)] at hall; exact hall.symm), rfl⟩
theorem rf_Words (b f r o : Int) (A : Option Addr) (l : List Int) (c : Nat) (w : World) (hl : l.length ≤ 9223372036854775807) (h : Ints w A l) :
    Calls Try.prog 33 #[wordV b f r o, .slice A l.length c] w fun e w' => e = .returned (.bool (wordsB b f r o l)) ∧ Below w.heap.size w w' := by
  go_enter Try.func33, Try.ntmps33
  go_wp2
  go_loopw [5] (fun i wr => ∃ k : Nat, k ≤ l.length ∧ i = .int .i64 k ∧ (l.take k).all (fun x => fitsW b f r o x) = true ∧ Below (w.heap.size + 1) (w.alloc (.cells #[.int .i64 b, .int .i64 f, .int .i64 r, .int .i64 o] 26)) wr) (fun i _ => l.length - (intOf i).toNat)
  case atStart => exact ⟨0, Nat.zero_le _, rfl, rfl, Below.refl _ _⟩
  case round =>
    obtain ⟨k, hk, rfl, hall, hbw⟩ := hrel
    have hz : w.heap.size < wr.heap.size := by have := hbw.size; simp at this; omega
    by_cases hlt : k < l.length
    · obtain ⟨ad, x, rfl, hb, hx, hc, i1, i2⟩ := h.at_ hlt
      have HS := Lib.hid (take_succ_all hx (fun x => fitsW b f r o x))
      have HN := Lib.hid (all_no hx (p := fun x => fitsW b f r o x))
      have HA := Lib.hid hall
      have x0 : ∀ n : Ext wr, n.to.cell? ⟨w.heap.size, 0, none⟩ = some (.int .i64 b) := fun n => (n.cell _ hz).trans ((hbw.cell (Nat.lt_succ_self _)).trans (by simp [go_sem]))
      have x1 : ∀ n : Ext wr, n.to.cell? ⟨w.heap.size, 1, none⟩ = some (.int .i64 f) := fun n => (n.cell _ hz).trans ((hbw.cell (Nat.lt_succ_self _)).trans (by simp [go_sem]))
      have x2 : ∀ n : Ext wr, n.to.cell? ⟨w.heap.size, 2, none⟩ = some (.int .i64 r) := fun n => (n.cell _ hz).trans ((hbw.cell (Nat.lt_succ_self _)).trans (by simp [go_sem]))
      have x3 : ∀ n : Ext wr, n.to.cell? ⟨w.heap.size, 3, none⟩ = some (.int .i64 o) := fun n => (n.cell _ hz).trans ((hbw.cell (Nat.lt_succ_self _)).trans (by simp [go_sem]))
      have xk : ∀ n : Ext wr, n.to.cell? (ad.add k) = some (.int .i64 x) := fun n => (n.cell _ (by rw [block_add]; omega)).trans ((hbw.cell (by rw [block_add]; omega)).trans ((World.cell?_alloc_lt _ _ _ (by rw [block_add]; omega)).trans hc))
      clear hall hx hc h
      rcases Bool.eq_false_or_eq_true (fitsW b f r o x) with hin | hin
      all_goals
        go_wp2_with fail
        refine wp_region_ext (by kernel_rfl) (by kernel_rfl) ?_
        repeat (go_big_quiet_step (first | (go_at_call 48; exact ext_below (rf_Fits _ _ _ _ _ _))))
        refine wpQuiet_nil ?_
        rintro _ ⟨⟨w1, hb1⟩, rfl⟩
        go_wp2
      · go_roundw
        case rel => exact ⟨k + 1, by omega, by go_num, by rw [HS.out, HA.out, hin]; rfl, hbw.trans (hb1.mono (by omega))⟩
        case measure => simp [intOf]; omega
      · go_ret
        exact ⟨ret_bool (HN.out hin).symm, ((Below.refl _ _).alloc (Nat.le_refl _) _).trans ((hbw.trans (hb1.mono (by omega))).mono (by omega))⟩
    · go_wp2
      go_ret
      exact ⟨ret_bool (by rw [List.take_of_length_le (by omega)] at hall; exact hall.symm), ((Below.refl _ _).alloc (Nat.le_refl _) _).trans (hbw.mono (by omega))⟩
theorem rf_SameInts (A B : Option Addr) (l m : List Int) (c d : Nat) (w : World) (hm : m.length ≤ 9223372036854775807) (h : Ints w A l) (g : Ints w B m) :
    Calls Try.prog 14 #[.slice A l.length c, .slice B m.length d] w fun e w' => e = .returned (.bool (l == m)) ∧ Below w.heap.size w w' := by
  by_cases hlen : l.length = m.length
  · have hlen' : ((l.length : Int) != (m.length : Int)) = false := by simp [hlen]
    have HL := Lib.hid hlen
    have hle : l.length ≤ m.length := by omega
    clear hlen
    go_enter Try.func14, Try.ntmps14
    go_wp2
    go_loopw [5] (fun i wr => ∃ k : Nat, k ≤ l.length ∧ i = .int .i64 k ∧ l.take k = m.take k ∧ Below w.heap.size w wr) (fun i _ => l.length - (intOf i).toNat)
    case atStart => exact ⟨0, Nat.zero_le _, rfl, rfl, Below.refl _ _⟩
    case round =>
      obtain ⟨k, hk, rfl, hall, hbw⟩ := hrel
      by_cases hlt : k < l.length
      · obtain ⟨ad, x, rfl, hb, hx, hc, i1, i2⟩ := h.at_ hlt
        obtain ⟨ad2, y, rfl, hb2, hy, hc2, j1, j2⟩ := g.at_ (k := k) (by omega)
        have q1 := (hbw.cell (p := ad.add k) (by rw [block_add]; exact hb)).trans hc
        have q2 := (hbw.cell (p := ad2.add k) (by rw [block_add]; exact hb2)).trans hc2
        have HS := Lib.hid (take_snoc' hx)
        have HT := Lib.hid (take_snoc' hy)
        have HA := Lib.hid hall
        have HX := Lib.hid hx
        have HY := Lib.hid hy
        clear hall hx hy hc hc2 h g
        by_cases hxy : x = y
        · subst hxy
          go_wp2
          go_quiet (fail)
          go_wp2
          go_roundw
          case rel => exact ⟨k + 1, by omega, by go_num, by rw [HS.out, HT.out, HA.out], below_drewN hbw _⟩
          case measure => simp [intOf]; omega
        · have hne : (x != y) = true := by simp [hxy]
          go_wp2
          go_quiet (fail)
          go_wp2
          go_ret
          refine ⟨ret_bool ?_, below_drewN hbw _⟩
          have h1 := HX.out
          have h2 := HY.out
          symm
          rw [beq_eq_false_iff_ne]
          intro e
          rw [e, h2] at h1
          exact hxy (Option.some.inj h1).symm
      · go_wp2
        go_ret
        refine ⟨ret_bool ?_, hbw⟩
        have h1 := HL.out
        rw [List.take_of_length_le (by omega), List.take_of_length_le (by omega)] at hall
        rw [hall]; simp
  · have hlen' : ((l.length : Int) != (m.length : Int)) = true := by simp; omega
    have hne : (l == m) = false := by simp; intro e; rw [e] at hlen; exact hlen rfl
    have HE := Lib.hid hne
    clear hlen hne
    go_enter Try.func14, Try.ntmps14
    go_wp2
    go_ret
    exact ⟨ret_bool HE.out.symm, Below.refl _ _⟩
/-- The element with the number i, or 0. -/
def atF (l : List Int) (i : Int) : Int := if 0 ≤ i then l[i.toNat]?.getD 0 else 0
theorem atF_nat {l : List Int} {k : Nat} {x : Int} (h : l[k]? = some x) : atF l (k : Int) = x := by
  unfold atF; rw [if_pos (by omega), Int.toNat_natCast, h]; rfl
theorem atF_no {l : List Int} {i : Int} (h : i < 0 ∨ (l.length : Int) ≤ i) : atF l i = 0 := by
  unfold atF
  split
  · rw [List.getElem?_eq_none (by omega)]; rfl
  · rfl
theorem wd_At (A : Option Addr) (l : List Int) (c : Nat) (i : Int) (w : World) (h : Ints w A l) :
    Calls Try.prog 41 #[.slice A l.length c, .int .i64 i] w fun e w' => e = .returned (.int .i64 (atF l i)) ∧ w = w' := by
  by_cases h1 : 0 ≤ i ∧ i < l.length
  · obtain ⟨k, rfl⟩ := Int.eq_ofNat_of_zero_le h1.1
    have h2 : k < l.length := by omega
    obtain ⟨ad, x, rfl, hb, hx, hc, i1, i2⟩ := h.at_ h2
    have HX := Lib.hid (atF_nat hx)
    clear hx h h1
    go_enter Try.func41, Try.ntmps41
    go_wp2
    go_ret
    exact ⟨ret_int HX.out.symm, rfl⟩
  · have HX := Lib.hid (atF_no (l := l) (i := i) (by omega))
    have h2 : 0 ≤ i → (l.length : Int) ≤ i := by omega
    clear h1
    go_enter Try.func41, Try.ntmps41
    go_wp2
    all_goals go_ret
    all_goals exact ⟨ret_int HX.out.symm, rfl⟩
end Go.Proofs.Ytlomhaabiodofaa
