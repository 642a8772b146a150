/- The walk of the reference's Phases. -/
import Derived.Test.YthalkhpdcijlkaaMy
import Derived.Deep.RegionLaw
namespace Go.Proofs.Ythalkhpdcijlkaa
open Go.RowKit

set_option maxHeartbeats 1000000 in
theorem rf32_Phases (A : Option Addr) (x : List Int) (c : Nat) (M : Int) (w : World) (hx : x.length ≤ 9223372036854775807) (h : Ints w A x) :
    Calls Try.prog 19 #[.slice A x.length c, .int .i64 M] w (RetIntsL w (phV x M) (downE x.length M)) := by
  rcases Bool.eq_false_or_eq_true (inB M 1 12) with hp | hp
  · obtain ⟨l1, l2⟩ := inB_iff.1 hp
    obtain ⟨m, rfl⟩ := Int.eq_ofNat_of_zero_le (by omega : 0 ≤ M)
    by_cases hlong : 4096 < x.length
    · have hE : downE x.length m = 4 := by unfold downE; rw [hp, if_pos rfl, if_pos hlong]
      have hV : phV x m = [] := phV_no (by rw [hE]; decide)
      rw [hE, hV]
      clear hE hV
      go_enter Try.func19, Try.ntmps19
      go_wp2_with (go_at_call 26; refine (rf_factor _ _).mono ?_; rintro e w' ⟨rfl, rfl⟩)
      go_ret2
      exact RetIntsL.mk rfl IntsL.nil (Below.refl _ _)
    · have hE : downE x.length m = 0 := by unfold downE; rw [hp, if_pos rfl, if_neg hlong]
      have hV : phV x m = phT x m x.length := by rw [phV_of hE, phT_all]
      rw [hE, hV]
      clear hE hV
      have hn1 : m ≤ 100000000 := by omega
      go_enter Try.func19, Try.ntmps19
      go_wp2_with (first
        | (go_at_call 26; refine (rf_factor _ _).mono ?_; rintro e w' ⟨rfl, rfl⟩)
        | (at_make; refine mk_intD rfl _ _ rfl m rfl rfl rfl hn1 ?_; intro w1 hown1 hb1))
      all_goals try (exfalso; omega)
      have hown0 : OwnD w.heap.size w1 w.heap.size m (phT x m 0) := by
        rw [phT_zero x m (by omega)]
        exact hown1
      clear hown1
      go_loopw [7] (fun i wr => ∃ t : Nat, t ≤ x.length ∧ i = .int .i64 t ∧ OwnD w.heap.size wr w.heap.size m (phT x m t) ∧ Below w.heap.size w wr) (fun i _ => x.length - (intOf i).toNat)
      case atStart => exact ⟨0, Nat.zero_le _, rfl, hown0, hb1⟩
      case round =>
        obtain ⟨t, ht, rfl, hown, hbw⟩ := hrel
        by_cases hlt : t < x.length
        · obtain ⟨ad, y, rfl, hba, hy, hc, i1, i2⟩ := h.at_ hlt
          have hc := (hbw.cell (by rw [block_add]; exact hba)).trans hc
          have HS := Lib.hid (phT_succ (x := x) (m := m) (by omega) hy)
          have hat := phT_at (x := x) (m := m) (t := t) (Nat.mod_lt t (show 0 < m by omega))
          have e1 := rem_cast (k := t) (m := m)
          have b1 : t % m < m := Nat.mod_lt _ (by omega)
          have hlr : (everyF (x.take t) (t % m) m).length < 100000000 := by
            have : (everyF (x.take t) (t % m) m).length = _ := everyN_length _ _ _ _
            rw [this]
            have := cnt_le (x.take t).length (t % m) m (by omega)
            rw [List.length_take] at this
            rw [List.length_take]
            omega
          obtain ⟨a, ha⟩ : ∃ a, t % m = a := ⟨_, rfl⟩
          rw [ha] at e1 b1 hat hlr
          obtain ⟨l, hl⟩ : ∃ l, everyF (x.take t) a m = l := ⟨_, rfl⟩
          rw [hl] at hat hlr
          have HA := Lib.hid ha
          have HL := Lib.hid hl
          have hI : I64 y := ⟨i1, i2⟩
          have hsz := hbw.size
          obtain ⟨B, cc, hcell, hrow⟩ := hown.own.cell hat
          have hfree := hown.own.free a
          have hgs := hown.own.block
          have m0 : m ≠ 0 := by omega
          have m1 : (m : Int) ≠ 0 := by omega
          have f1 : (t : Int) % m = (a : Int) := by rw [← HA.out]; rfl
          have f3 : t % m = a := HA.out
          have ww1 : IntKind.i64.wrap (a : Int) = a := IntWalk.i64_in _ (by omega)
          have ww3 : IntKind.i64.wrap ((t : Int).tmod m) = a := by rw [e1]; exact ww1
          have x1 : (0 : Int) ≤ (a : Int) := by omega
          have x3 : (a : Int) < (m : Int) := by omega
          have hown2 : OwnD w.heap.size wr.drew w.heap.size m (phT x m t) := hown
          have hbw2 := hbw.drew
          have hsz2 : w.heap.size ≤ wr.drew.heap.size := hsz
          have c1 : wr.drew.cell? ⟨w.heap.size, a, none⟩ = some (.slice B l.length cc) := hcell
          clear hy ha hl h
          go_wp2_with fail
          go_region_law ((with_reducible refine step_app_row _ rfl (.tmp 31) (.tmp 36) rfl w.heap.size hown2 hat c1 ?_ ?_ ?_ hlr hsz2 hI ?_); (exact rfl); (exact rfl); (exact rfl); intro v1 w1 hmid hcv hbel1; obtain ⟨B1, c1, rfl⟩ := hmid.form; have hfm := hmid.free a; have hbw3 := hbw2.trans hbel1; have hset := hmid.set)
          all_goals (clear f1 f3 ww1 ww3; rw [List.length_append] at hset; go_wp2; go_roundw)
          all_goals first
            | (simp [intOf]; omega)
            | exact ⟨t + 1, by omega, by go_num, by rw [HS.out, HA.out, HL.out]; exact hset, hbw3.setCell (p := ⟨w.heap.size, a, none⟩) (Nat.le_refl _) _⟩
        · go_wp2
          go_ret2
          obtain rfl : t = x.length := by omega
          exact RetIntsL.mk (by rw [phT_length]) hown.own.ints hbw
  · have hE : downE x.length M = 20 := by unfold downE; rw [hp, if_neg (by decide)]
    have hV : phV x M = [] := phV_no (by rw [hE]; decide)
    rw [hE, hV]
    clear hE hV
    go_enter Try.func19, Try.ntmps19
    go_wp2_with (go_at_call 26; refine (rf_factor _ _).mono ?_; rintro e w' ⟨rfl, rfl⟩)
    go_ret2
    exact RetIntsL.mk rfl IntsL.nil (Below.refl _ _)
end Go.Proofs.Ythalkhpdcijlkaa
