/- The walk of Join. -/
import Derived.Test.YtlomhaabiodofaaMr
import Derived.Test.YtlomhaabiodofaaMj
namespace Go.Proofs.Ytlomhaabiodofaa
open Go.RowKit

def okB (v : Int) : Bool := inB v (-16777216) 16777216
theorem joinE_bad {h g : List Int} (hl : ¬ (49 < h.length ∨ 49 < g.length)) (hb : h.all okB = false ∨ g.all okB = false) : joinE h g = 17 ∧ joinV h g = [] := by
  have hE : joinE h g = 17 := by
    unfold joinE
    rw [if_neg hl, if_neg]
    intro ⟨h1, h2⟩
    rcases hb with hb | hb
    · exact absurd (h1.symm.trans hb) (by decide)
    · exact absurd (h2.symm.trans hb) (by decide)
  exact ⟨hE, by unfold joinV; rw [if_neg (by rw [hE]; decide)]⟩
theorem okB_all {l : List Int} (h : l.all okB = true) : ∀ x ∈ l, -16777216 ≤ x ∧ x ≤ 16777216 := fun x hx => inB_iff.1 (List.all_eq_true.1 h x hx)
theorem idx0 (A B : Option Addr) (n m c d : Nat) (w : World) : (Instr.index 54 (.agg #[.slice A n c, .slice B m d]) (.int .i64 0)).run Try.prog w = .ok (.slice A n c) w := by kernel_rfl
theorem idx1 (A B : Option Addr) (n m c d : Nat) (w : World) : (Instr.index 54 (.agg #[.slice A n c, .slice B m d]) (.int .i64 1)).run Try.prog w = .ok (.slice B m d) w := by kernel_rfl
set_option maxRecDepth 100000 in
set_option maxHeartbeats 2000000 in
theorem mr_Join (A B : Option Addr) (h g : List Int) (c d : Nat) (w : World) (hx : h.length ≤ 9223372036854775807) (gx : g.length ≤ 9223372036854775807) (hh : Ints w A h) (hg : Ints w B g) :
    Calls Try.prog 18 #[.slice A h.length c, .slice B g.length d] w (RetInts w (joinV h g) (joinE h g)) := by
  have hb := Below.refl w.heap.size w
  by_cases hlong : 49 < h.length ∨ 49 < g.length
  · have hE : joinE h g = 4 := by unfold joinE; rw [if_pos hlong]
    have hV : joinV h g = [] := by unfold joinV; rw [if_neg (by rw [hE]; decide)]
    rw [hE, hV]
    clear hE hV
    go_enter Try.func18, Try.ntmps18
    go_wp2
    all_goals try (exfalso; omega)
    all_goals go_ret2
    all_goals exact RetInts.mk Own.nil hb
  have hl1 : h.length ≤ 49 := by omega
  have hl2 : g.length ≤ 49 := by omega
  have HBAD := Lib.hid (joinE_bad hlong)
  clear hlong
  have j0 := idx0 A B h.length g.length c d
  have j1 := idx1 A B h.length g.length c d
  go_enter Try.func18, Try.ntmps18
  go_wp2
  all_goals try (exfalso; omega)
  go_loop [26] (fun i => ∃ k : Nat, k ≤ 2 ∧ i = .int .i64 k ∧ Hid (1 ≤ k → h.all okB = true) ∧ Hid (2 ≤ k → g.all okB = true)) (fun i => 2 - (intOf i).toNat)
  case atStart => exact ⟨0, by omega, rfl, fun h => by omega, fun h => by omega⟩
  case round =>
    obtain ⟨k, hk, rfl, H1, H2⟩ := hrel
    obtain rfl | rfl | rfl : k = 0 ∨ k = 1 ∨ k = 2 := by omega
    · go_wp2
      go_loop [31] (fun i => ∃ j : Nat, j ≤ h.length ∧ i = .int .i64 j ∧ Hid ((h.take j).all okB = true)) (fun i => h.length - (intOf i).toNat)
      case atStart => exact ⟨0, Nat.zero_le _, rfl, rfl⟩
      case round =>
        obtain ⟨j, hj, rfl, HA⟩ := hrel
        by_cases hlt : j < h.length
        · obtain ⟨ad, x, rfl, ba, hx1, ca, i1, i2⟩ := hh.at_ hlt
          have HS := Lib.hid (take_succ_all hx1 okB)
          have HN := Lib.hid (all_no hx1 (p := okB))
          clear hx1 hh
          rcases Bool.eq_false_or_eq_true (okB x) with hin | hin
          · obtain ⟨y1, y2⟩ := inB_iff.1 hin
            go_wp2
            all_goals try (exfalso; omega)
            go_round
            case rel => exact ⟨j + 1, by omega, by go_num, by show _ = _; rw [HS.out, HA.out, hin]; rfl⟩
            case measure => simp [intOf]; omega
          · have y1 := inB_no.1 hin
            have hbad := HBAD.out (.inl (HN.out hin))
            have HB := Lib.hid hbad
            clear hbad
            go_wp2
            all_goals try (exfalso; omega)
            all_goals go_ret2
            all_goals rw [HB.out.1, HB.out.2]
            all_goals exact RetInts.mk Own.nil hb
        · obtain rfl : j = h.length := by omega
          go_wp2
          all_goals try (exfalso; omega)
          go_round
          case rel => exact ⟨1, by omega, by go_num, fun _ => by have := HA.out; rw [List.take_length] at this; exact this, fun h => by omega⟩
          case measure => simp [intOf]
    · go_wp2
      go_loop [31] (fun i => ∃ j : Nat, j ≤ g.length ∧ i = .int .i64 j ∧ Hid ((g.take j).all okB = true)) (fun i => g.length - (intOf i).toNat)
      case atStart => exact ⟨0, Nat.zero_le _, rfl, rfl⟩
      case round =>
        obtain ⟨j, hj, rfl, HA⟩ := hrel
        by_cases hlt : j < g.length
        · obtain ⟨ad, x, rfl, ba, hx1, ca, i1, i2⟩ := hg.at_ hlt
          have HS := Lib.hid (take_succ_all hx1 okB)
          have HN := Lib.hid (all_no hx1 (p := okB))
          clear hx1 hg
          rcases Bool.eq_false_or_eq_true (okB x) with hin | hin
          · obtain ⟨y1, y2⟩ := inB_iff.1 hin
            go_wp2
            all_goals try (exfalso; omega)
            go_round
            case rel => exact ⟨j + 1, by omega, by go_num, by show _ = _; rw [HS.out, HA.out, hin]; rfl⟩
            case measure => simp [intOf]; omega
          · have y1 := inB_no.1 hin
            have hbad := HBAD.out (.inr (HN.out hin))
            have HB := Lib.hid hbad
            clear hbad
            go_wp2
            all_goals try (exfalso; omega)
            all_goals go_ret2
            all_goals rw [HB.out.1, HB.out.2]
            all_goals exact RetInts.mk Own.nil hb
        · obtain rfl : j = g.length := by omega
          go_wp2
          all_goals try (exfalso; omega)
          go_round
          case rel => exact ⟨2, by omega, by go_num, fun _ => H1.out (by omega), fun _ => by have := HA.out; rw [List.take_length] at this; exact this⟩
          case measure => simp [intOf]
    · have hok := okB_all (H1.out (by omega))
      have gok := okB_all (H2.out (by omega))
      have hE : joinE h g = 0 := by
        unfold joinE
        rw [if_neg (by omega), if_pos ⟨H1.out (by omega), H2.out (by omega)⟩]
      have hV : joinV h g = joinF h g := by unfold joinV; rw [if_pos hE]
      have HE := Lib.hid hE
      have HV := Lib.hid hV
      clear hE hV j0 j1
      have HOK := Lib.hid hok
      have GOK := Lib.hid gok
      clear hok gok
      by_cases hz : h.length = 0 ∨ g.length = 0
      · have hF : joinF h g = [] := by
          apply List.eq_nil_of_length_eq_zero
          unfold joinF
          rw [joinN_length]
          unfold joinLen
          rw [if_pos]
          rcases hz with hz | hz
          · exact .inl (List.eq_nil_of_length_eq_zero hz)
          · exact .inr (List.eq_nil_of_length_eq_zero hz)
        have HF := Lib.hid hF
        clear hF
        go_wp2
        all_goals try (exfalso; omega)
        all_goals go_ret2
        all_goals rw [HE.out, HV.out, HF.out]
        all_goals exact RetInts.mk Own.nil hb
      · have z1 : 1 ≤ h.length := by omega
        have z2 : 1 ≤ g.length := by omega
        have hL : joinLen h g = h.length + g.length - 1 := by
          unfold joinLen
          rw [if_neg]
          rintro (hc | hc)
          · rw [hc] at z1; simp at z1
          · rw [hc] at z2; simp at z2
        obtain ⟨n, hn⟩ : ∃ n, h.length + g.length - 1 = n := ⟨_, rfl⟩
        rw [hn] at hL
        have HL := Lib.hid hL
        have hN : (h.length : Int) + g.length - 1 = n := by omega
        have hnb : n ≤ 100000000 := by omega
        clear hL hz
        go_wp2_with (at_make; refine mk_int rfl _ _ rfl w.heap.size n rfl rfl (by omega) hnb (Nat.le_refl _) ?_; intro w1 hown1 hb1)
        all_goals try (exfalso; omega)
        have hown0 : Own w.heap.size w1 (.slice (some ⟨w.heap.size, 0, none⟩) n n) (joinN h g 0 0) := by rw [joinN_zero, HL.out]; exact hown1
        clear hown1
        go_loopw [60] (fun i wr => ∃ I : Nat, I ≤ h.length ∧ i = .int .i64 I ∧ Own w.heap.size wr (.slice (some ⟨w.heap.size, 0, none⟩) n n) (joinN h g I 0) ∧ Below w.heap.size w wr) (fun i _ => h.length - (intOf i).toNat)
        case atStart => exact ⟨0, Nat.zero_le _, rfl, hown0, hb1⟩
        case round =>
          obtain ⟨I, hI, rfl, hown, hbw⟩ := hrel
          by_cases hlt : I < h.length
          · obtain ⟨ad, a, rfl, ba, ha, ca, a1, a2⟩ := (hh.grow hbw).at_ hlt
            have HA := Lib.hid ha
            obtain ⟨a3, a4⟩ := HOK.out a (List.mem_of_getElem? ha)
            clear ha
            go_wp2
            all_goals try (exfalso; omega)
            go_loopw [67] (fun i wr2 => ∃ J : Nat, J ≤ g.length ∧ i = .int .i64 J ∧ Own w.heap.size wr2 (.slice (some ⟨w.heap.size, 0, none⟩) n n) (joinN h g I J) ∧ Below w.heap.size w wr2) (fun i _ => g.length - (intOf i).toNat)
            case atStart => exact ⟨0, Nat.zero_le _, rfl, hown, hbw⟩
            case round =>
              obtain ⟨J, hJ, rfl, hown2, hbw2⟩ := hrel
              by_cases hlt2 : J < g.length
              · obtain ⟨ad2, b, rfl, bb, hbb, cb, b1, b2⟩ := (hg.grow hbw2).at_ hlt2
                obtain ⟨b3, b4⟩ := GOK.out b (List.mem_of_getElem? hbb)
                obtain ⟨s, hs⟩ : ∃ s, (joinN h g I J)[I + J]? = some s := ⟨_, List.getElem?_eq_getElem (by rw [joinN_length, HL.out]; omega)⟩
                obtain ⟨s1, s2⟩ := joinN_bound HOK.out GOK.out (by omega) hs
                have HS := Lib.hid (joinN_succ HA.out hbb hs)
                have hmb := mul_bound (x := a) (y := b) (B := 16777216) (C := 16777216) ⟨a3, a4⟩ ⟨b3, b4⟩
                obtain ⟨P, hP⟩ : ∃ P, a * b = P := ⟨_, rfl⟩
                rw [hP] at hmb HS
                have cs := hown2.cell hs
                have cf := hown2.free (I + J)
                have HSET := Lib.hid (hown2.set (I + J) (y := s + P) ⟨by omega, by omega⟩)
                clear hbb hs hown2
                go_wp2
                all_goals try (exfalso; omega)
                go_roundw
                case rel => exact ⟨J + 1, by omega, by go_num, by rw [HS.out]; exact HSET.out, hbw2.setCell (Nat.le_refl _) _⟩
                case measure => simp [intOf]; omega
              · obtain rfl : J = g.length := by omega
                go_wp2
                all_goals try (exfalso; omega)
                go_roundw
                case rel => exact ⟨I + 1, by omega, by go_num, by rw [← joinN_row]; exact hown2, hbw2⟩
                case measure => simp [intOf]; omega
          · go_wp2
            all_goals try (exfalso; omega)
            go_ret2
            obtain rfl : I = h.length := by omega
            rw [HE.out, HV.out]
            exact RetInts.mk hown hbw
end Go.Proofs.Ytlomhaabiodofaa
