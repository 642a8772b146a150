/- The walk of Convert of the reference, on the way without an error. -/
import Derived.Test.YtlomhaabiodofaaNx
namespace Go.Proofs.Ytlomhaabiodofaa
open Go.RowKit

/-- The first k outputs. -/
def filtN (b f r o cf : Int) (h u : List Int) (k : Nat) : List Int := (List.range k).map (cvF b f r o cf h u)
theorem filtN_succ (b f r o cf : Int) (h u : List Int) (k : Nat) : filtN b f r o cf h u (k + 1) = filtN b f r o cf h u k ++ [cvF b f r o cf h u k] := by simp [filtN, List.range_succ]
theorem filtN_length (b f r o cf : Int) (h u : List Int) (k : Nat) : (filtN b f r o cf h u k).length = k := by simp [filtN]
set_option maxRecDepth 100000 in
set_option maxHeartbeats 2000000 in
theorem rf_Convert_good (A B : Option Addr) (h x : List Int) (c d : Nat) (up down : Nat) (b f r o b' f' r' o' : Int) (w : World) (hh : Ints w A h) (hx : Ints w B x)
    (k1 : okW b f r o = true) (k2 : okW b' f' r' o' = true) (u1 : 1 ≤ up) (u2 : up ≤ 12) (d1 : 1 ≤ down) (d2 : down ≤ 12)
    (hl : h.length ≤ 49) (xl : x.length ≤ 4096) (hu : up * x.length ≤ 4096) (q1 : wordsB b' f' r' o' h = true) (q2 : wordsB b f r o x = true) :
    Calls Try.prog 16 #[.slice A h.length c, .int .i64 up, .int .i64 down, wordV b f r o, wordV b' f' r' o', .slice B x.length d] w (RetInts w (convF b f r o f' h up down x) 0) := by
  have p1 : inB (up : Int) 1 12 = true := inB_iff.2 ⟨by omega, by omega⟩
  have p2 : inB (down : Int) 1 12 = true := inB_iff.2 ⟨by omega, by omega⟩
  have hfl := fits_all q1
  have xfl := fits_all q2
  have HFL : Hid (∀ y ∈ h, -16777216 ≤ y ∧ y ≤ 16777216) := fun y hy => by have := hfl y hy; omega
  have UFL : Hid (∀ y ∈ upF x up, -16777216 ≤ y ∧ y ≤ 16777216) := up_all (by decide) (fun y hy => by have := xfl y hy; omega) up u1
  clear hfl xfl
  obtain ⟨U, hU⟩ : ∃ U, up * x.length = U := ⟨_, rfl⟩
  have hU2 : (up : Int) * (x.length : Int) = (U : Int) := by rw [← hU]; simp
  have hUl : (upF x up).length = U := by rw [← hU]; exact upN_length _ _ _
  rw [hU] at hu
  have hEU : upE x.length up = 0 := by unfold upE; rw [if_pos p1, if_neg (by rw [hU2]; omega)]
  have hcu := fun (w : World) (h : Ints w B x) => rf32_Up B x d up w (by omega) h
  rw [hEU, upV_of hEU] at hcu
  have hcd := fun (w : World) (A : Option Addr) (c : Nat) (l : List Int) (hl : l.length = U) (h : Ints w A l) => rf32_Down A l c down w (by omega) h
  have hED : downE U down = 0 := by unfold downE; rw [if_pos p2, if_neg (by omega)]
  have hcd2 : ∀ (w : World) (A : Option Addr) (c : Nat) (l : List Int) (hl : l.length = U) (h : Ints w A l), Calls Try.prog 37 #[.slice A U c, .int .i64 down] w (RetInts w (everyF l 0 down) 0) := fun w A c l hl h => by
    have hE : downE l.length down = 0 := by rw [hl]; exact hED
    have := hcd w A c l hl h
    rw [downV_of hE, hE, hl] at this
    exact this
  have HCD := Lib.hid hcd2
  have HCU := Lib.hid hcu
  clear hcd hcd2 hcu hEU hED
  have HF : Hid (convF b f r o f' h up down x = everyF (filtN b f r o f' h (upF x up) U) 0 down) := by
    show everyF (filtF b f r o f' h (upF x up)) 0 down = _
    unfold filtF filtN
    rw [hUl]
  have HUL := Lib.hid hUl
  clear hU hUl
  go_enter Try.func16, Try.ntmps16
  go_wp2_with (first
      | (go_at_call 31; ((with_reducible refine (rf_Valid_is k1 _).mono ?_); rintro e w1 ⟨rfl, hb⟩; obtain ⟨hc, hf⟩ := bcell hb))
      | (go_at_call 31; ((with_reducible refine (rf_Valid_is k2 _).mono ?_); rintro e w1 ⟨rfl, hb1⟩; have hb9 := below_then hb hb1; clear hb hb1 hc hf; have hb := hb9; clear hb9; obtain ⟨hc, hf⟩ := bcell hb))
      | (go_at_call 32; ((with_reducible refine (rf_factor_is p1 _).mono ?_); rintro e w1 ⟨rfl, rfl⟩))
      | (go_at_call 32; ((with_reducible refine (rf_factor_is p2 _).mono ?_); rintro e w1 ⟨rfl, rfl⟩))
      | (go_at_call 33; ((with_reducible refine (rf_Words_is q1 A c _ (by omega) (hh.grow (below_box2 hb))).mono ?_); rintro e w1 ⟨rfl, hb1⟩; have hb9 := below_then hb hb1; clear hb hb1 hc hf; have hb := hb9; clear hb9; obtain ⟨hc, hf⟩ := bcell hb))
      | (go_at_call 33; ((with_reducible refine (rf_Words_is q2 B d _ (by omega) (hx.grow (below_box2 hb))).mono ?_); rintro e w1 ⟨rfl, hb1⟩; have hb9 := below_then hb hb1; clear hb hb1 hc hf; have hb := hb9; clear hb9))
      | (go_at_call 34; refine (HCU.out _ (hx.grow (below_box2 hb))).mono ?_; rintro e w2 ⟨vu, rfl, hou, hbm⟩))
  all_goals try (exfalso; omega)
  obtain ⟨Au, cu, rfl, hcu2, hiu⟩ := hou.form
  have hul : (upF x up).length = U := HUL.out
  rw [hul]
  have hsz1 := below_boxes hb
  have HY : Hid (w1.cell? ⟨w.heap.size, 0, none⟩ = some (.int .i64 b) ∧ w1.cell? ⟨w.heap.size, 1, none⟩ = some (.int .i64 f) ∧ w1.cell? ⟨w.heap.size, 2, none⟩ = some (.int .i64 r) ∧ w1.cell? ⟨w.heap.size, 3, none⟩ = some (.int .i64 o) ∧ w1.cell? ⟨w.heap.size + 1, 1, none⟩ = some (.int .i64 f')) :=
    ⟨(hb.cell (by simp <;> omega)).trans (by simp [go_sem]), (hb.cell (by simp <;> omega)).trans (by simp [go_sem]), (hb.cell (by simp <;> omega)).trans (by simp [go_sem]), (hb.cell (by simp <;> omega)).trans (by simp [go_sem]), (hb.cell (by simp <;> omega)).trans (by simp [go_sem])⟩
  have HY := Lib.hid (convS hbm HY)
  have hh1 := (hh.grow (below_box2 hb)).grow hbm
  have HB := Lib.hid (below_then (below_box2 hb) hbm)
  have hsw : w.heap.size < w1.heap.size := by omega
  have hs2 := hbm.size
  clear hb hh hx hul hou
  go_wp2
  all_goals try (exfalso; omega)
  go_loopw [16, 17] (fun v i wr => ∃ N : Nat, N ≤ U ∧ i = .int .i64 N ∧ Own w2.heap.size wr v (filtN b f r o f' h (upF x up) N) ∧ Below w2.heap.size w2 wr) (fun _ i _ => U - (intOf i).toNat)
  case atStart => exact ⟨0, Nat.zero_le _, rfl, Own.nil, Below.refl _ _⟩
  case round =>
    obtain ⟨N, hN, rfl, hown, hbw⟩ := hrel
    by_cases hlt : N < U
    · have hhr := hh1.grow hbw
      have hur := hiu.grow hbw
      have HS := Lib.hid (filtN_succ b f r o f' h (upF x up) N)
      have hlen' : (filtN b f r o f' h (upF x up) N).length < 100000000 := by rw [filtN_length]; omega
      go_wp2
      go_loopw [18, 19] (fun s i wr2 => ∃ K : Nat, ∃ S : Int, K ≤ h.length ∧ i = .int .i64 K ∧ s = .int .i64 S ∧ Hid (S = cS h (upF x up) N K) ∧ Own w2.heap.size wr2 u16 (filtN b f r o f' h (upF x up) N) ∧ Below w2.heap.size w2 wr2) (fun _ i _ => h.length - (intOf i).toNat)
      case atStart => exact ⟨0, 0, Nat.zero_le _, rfl, rfl, rfl, hown, hbw⟩
      case round =>
        obtain ⟨K, S, hK, rfl, rfl, HC, hown2, hbw2⟩ := hrel
        have hsb := cS_bound HFL.out UFL.out N K
        rw [← HC.out] at hsb
        have hhr2 := hh1.grow hbw2
        have hur2 := hiu.grow hbw2
        by_cases hgo : K < h.length ∧ K ≤ N
        · obtain ⟨hgo1, hgo2⟩ := hgo
          obtain ⟨ad, a, rfl, ba, ha, ca, a1, a2⟩ := hhr2.at_ hgo1
          obtain ⟨a3, a4⟩ := HFL.out a (List.mem_of_getElem? ha)
          obtain ⟨D, hD⟩ : ∃ D, N - K = D := ⟨_, rfl⟩
          have hD2 : (N : Int) - (K : Int) = (D : Int) := by omega
          have hDU : D < U := by omega
          obtain ⟨ad2, y, rfl, by', hy, cy, y1, y2⟩ := hur2.at_ (k := D) (by rw [HUL.out]; exact hDU)
          obtain ⟨y3, y4⟩ := UFL.out y (List.mem_of_getElem? hy)
          have hmb := mul_bound (x := a) (y := y) (B := 16777216) (C := 16777216) ⟨a3, a4⟩ ⟨y3, y4⟩
          obtain ⟨P, hP⟩ : ∃ P, a * y = P := ⟨_, rfl⟩
          have HST : Hid (cS h (upF x up) N (K + 1) = S + P) := by
            show cS h (upF x up) N K + (if K ≤ N then el h K * el (upF x up) (N - K) else 0) = _
            rw [if_pos hgo2, ← HC.out, el_of ha, hD, el_of hy, hP]
          rw [hP] at hmb
          clear ha hD hy
          go_wp2
          all_goals try (exfalso; omega)
          go_region
          go_wp2
          go_roundw
          case rel => exact ⟨K + 1, S + P, by omega, by go_num, rfl, HST.out.symm, ⟨hown2.1.drew, hown2.2⟩, hbw2.drew⟩
          case measure => simp [intOf]; omega
        · have HE : Hid (S = cS h (upF x up) N h.length) := by
            show _ = _
            rw [HC.out]
            rcases Nat.lt_or_ge K h.length with g | g
            · exact (cS_stop (by omega) (by omega)).symm
            · rw [show K = h.length by omega]
          have hI : I64 S := ⟨by omega, by omega⟩
          have hI2 : I64 (reduceW b f r o (shiftF S f' r)) := reduce_i64 _ _ _ _ _
          have hown3 : Own w2.heap.size wr.drew _ _ := hown2
          have hbw3 : Below w2.heap.size w2 wr.drew := hbw2.drew
          have hsz : w2.heap.size ≤ wr.drew.heap.size := hbw2.size
          rcases Nat.lt_or_ge K h.length with g | g
          · have g2 : N < K := by omega
            go_wp2_with fail
            go_region_held3 (fun w' => (w'.cell? ⟨w.heap.size, 0, none⟩ = some (.int .i64 b) ∧ w'.cell? ⟨w.heap.size, 1, none⟩ = some (.int .i64 f) ∧ w'.cell? ⟨w.heap.size, 2, none⟩ = some (.int .i64 r) ∧ w'.cell? ⟨w.heap.size, 3, none⟩ = some (.int .i64 o) ∧ w'.cell? ⟨w.heap.size + 1, 1, none⟩ = some (.int .i64 f')))
              (first | exact convS (by assumption) HY | exact convS (hbw3.alloc hsz _) HY)
              (first
                | (go_at_call 36; refine (rf_Shift _ _ _ _ hI).mono ?_; rintro e w3 ⟨rfl, hb3⟩; have hown3 := hown3.grow hb3; have hbw3 := hbw3.trans (hb3.mono hsz); have hsz := Nat.le_trans hsz hb3.size)
                | (go_at_call 35; refine (rf_Reduce _ _ _ _ _ _).mono ?_; rintro e w3 ⟨rfl, hb3⟩; have hown3 := hown3.grow hb3; have hbw3 := hbw3.trans (hb3.mono hsz); have hsz := Nat.le_trans hsz hb3.size)
                | ((with_reducible refine step_app_int _ rfl (.tmp 101) (.tmp 110) rfl w2.heap.size hown3 ?_ ?_ ?_ hlen' hsz hI2 ?_); (exact rfl); (exact rfl); (exact rfl); intro v1 w1 hown4 hbel1; have hbw3 := hbw3.trans hbel1))
            go_wp2
            go_roundw
            case rel => exact ⟨N + 1, by omega, by go_num, by rw [HS.out, show cvF b f r o f' h (upF x up) N = reduceW b f r o (shiftF S f' r) from by rw [HE.out]; rfl]; exact hown4, hbw3⟩
            case measure => simp [intOf]; omega
          · have g2 : K = h.length := by omega
            subst g2
            go_wp2_with fail
            go_region_held3 (fun w' => (w'.cell? ⟨w.heap.size, 0, none⟩ = some (.int .i64 b) ∧ w'.cell? ⟨w.heap.size, 1, none⟩ = some (.int .i64 f) ∧ w'.cell? ⟨w.heap.size, 2, none⟩ = some (.int .i64 r) ∧ w'.cell? ⟨w.heap.size, 3, none⟩ = some (.int .i64 o) ∧ w'.cell? ⟨w.heap.size + 1, 1, none⟩ = some (.int .i64 f')))
              (first | exact convS (by assumption) HY | exact convS (hbw3.alloc hsz _) HY)
              (first
                | (go_at_call 36; refine (rf_Shift _ _ _ _ hI).mono ?_; rintro e w3 ⟨rfl, hb3⟩; have hown3 := hown3.grow hb3; have hbw3 := hbw3.trans (hb3.mono hsz); have hsz := Nat.le_trans hsz hb3.size)
                | (go_at_call 35; refine (rf_Reduce _ _ _ _ _ _).mono ?_; rintro e w3 ⟨rfl, hb3⟩; have hown3 := hown3.grow hb3; have hbw3 := hbw3.trans (hb3.mono hsz); have hsz := Nat.le_trans hsz hb3.size)
                | ((with_reducible refine step_app_int _ rfl (.tmp 101) (.tmp 110) rfl w2.heap.size hown3 ?_ ?_ ?_ hlen' hsz hI2 ?_); (exact rfl); (exact rfl); (exact rfl); intro v1 w1 hown4 hbel1; have hbw3 := hbw3.trans hbel1))
            go_wp2
            go_roundw
            case rel => exact ⟨N + 1, by omega, by go_num, by rw [HS.out, show cvF b f r o f' h (upF x up) N = reduceW b f r o (shiftF S f' r) from by rw [HE.out]; rfl]; exact hown4, hbw3⟩
            case measure => simp [intOf]; omega
    · obtain rfl : N = U := by omega
      obtain ⟨Av, cv, rfl, _, hiv⟩ := hown.form
      rw [filtN_length]
      go_wp2_with (go_at_call 37; refine (HCD.out _ _ _ _ (filtN_length _ _ _ _ _ _ _ _) hiv).mono ?_; rintro e w4 ⟨v4, rfl, ho4, hb4⟩)
      go_ret2
      rw [HF.out]
      exact RetInts.mk (ho4.base (by have := hbw.size; omega)) (below_then (below_then HB.out hbw) hb4)
end Go.Proofs.Ytlomhaabiodofaa
