/- The walk of Convert of package multirate, on the way without an error. -/
import Derived.Test.YtlomhaabiodofaaNw
import Derived.Test.YtlomhaabiodofaaMx
import Derived.Test.YtlomhaabiodofaaO
import Derived.Deep.RegionHeld3
namespace Go.Proofs.Ytlomhaabiodofaa
open Go.RowKit

/-- The first k outputs of n, each down inputs further on. -/
def convG (b f r o cf : Int) (h u : List Int) (down n k : Nat) : List Int := (List.range n).map fun i => if i < k then cvF b f r o cf h u (i * down) else 0
theorem convG_length (b f r o cf : Int) (h u : List Int) (down n k : Nat) : (convG b f r o cf h u down n k).length = n := by simp [convG]
theorem convG_zero (b f r o cf : Int) (h u : List Int) (down n : Nat) : convG b f r o cf h u down n 0 = List.replicate n 0 := by
  apply List.ext_getElem?
  intro i
  simp only [convG, List.getElem?_map, List.getElem?_replicate]
  rcases Nat.lt_or_ge i n with h | h
  · rw [List.getElem?_range h]; simp [h]
  · rw [List.getElem?_eq_none (by simpa using h)]; simp; omega
theorem convG_at {b f r o cf : Int} {h u : List Int} {down n k : Nat} (hk : k < n) : (convG b f r o cf h u down n k)[k]? = some 0 := by
  simp only [convG, List.getElem?_map, List.getElem?_range hk]; simp
theorem convG_succ {b f r o cf : Int} {h u : List Int} {down n k : Nat} (hk : k < n) : convG b f r o cf h u down n (k + 1) = (convG b f r o cf h u down n k).set k (cvF b f r o cf h u (k * down)) := by
  apply List.ext_getElem?
  intro i
  rw [List.getElem?_set]
  simp only [convG, List.getElem?_map, List.length_map, List.length_range]
  by_cases e : k = i
  · subst e; rw [if_pos rfl, if_pos hk, List.getElem?_range hk]; simp
  · rw [if_neg e]
    rcases Nat.lt_or_ge i n with hi | hi
    · rw [List.getElem?_range hi]
      simp only [Option.map_some]
      by_cases h1 : i < k
      · rw [if_pos (by omega), if_pos h1]
      · rw [if_neg (by omega), if_neg h1]
    · rw [List.getElem?_eq_none (by simpa using hi)]; rfl
theorem convG_all {b f r o cf : Int} {h u : List Int} {down n : Nat} (hd : 1 ≤ down) (hn : n = cnt u.length 0 down) : convG b f r o cf h u down n n = everyF (filtF b f r o cf h u) 0 down := by
  subst hn
  apply List.ext_getElem?
  intro i
  rw [everyF_get hd, Nat.zero_add, filtF_get]
  simp only [convG, List.getElem?_map]
  have := cnt_iff (n := u.length) (fr := 0) (k := i) hd
  rw [Nat.zero_add] at this
  by_cases hi : i < cnt u.length 0 down
  · rw [List.getElem?_range hi, if_pos (this.2 hi)]; simp [hi]
  · rw [List.getElem?_eq_none (by simpa using hi), if_neg (fun hc => hi (this.1 hc))]; rfl
theorem fits_all {b f r o : Int} {l : List Int} (h : wordsB b f r o l = true) : ∀ x ∈ l, -8388608 ≤ x ∧ x ≤ 8388607 := fun x hx => fits_small (List.all_eq_true.1 h x hx)
theorem up_all {l : List Int} {B : Int} (hB : 0 ≤ B) (h : ∀ x ∈ l, -B ≤ x ∧ x ≤ B) (m : Nat) (hm : 1 ≤ m) : ∀ x ∈ upF l m, -B ≤ x ∧ x ≤ B := by
  intro x hx
  obtain ⟨i, hi⟩ := List.getElem?_of_mem hx
  rw [← el_of hi, el_up hm]
  split
  · exact el_bound hB h _
  · omega
theorem below_boxes {w w' : World} {o p : Obj} (h : Below ((w.alloc o).alloc p).heap.size ((w.alloc o).alloc p) w') : w.heap.size + 2 ≤ w'.heap.size := by
  have := h.size; simp at this; omega
theorem convS {wa w' : World} {D : Nat} {v0 v1 v2 v3 v4 : Value} (h : Below wa.heap.size wa w') (y : Hid (wa.cell? ⟨D, 0, none⟩ = some v0 ∧ wa.cell? ⟨D, 1, none⟩ = some v1 ∧ wa.cell? ⟨D, 2, none⟩ = some v2 ∧ wa.cell? ⟨D, 3, none⟩ = some v3 ∧ wa.cell? ⟨D + 1, 1, none⟩ = some v4)) :
    w'.cell? ⟨D, 0, none⟩ = some v0 ∧ w'.cell? ⟨D, 1, none⟩ = some v1 ∧ w'.cell? ⟨D, 2, none⟩ = some v2 ∧ w'.cell? ⟨D, 3, none⟩ = some v3 ∧ w'.cell? ⟨D + 1, 1, none⟩ = some v4 := by
  obtain ⟨y0, y1, y2, y3, y4⟩ := y.out
  exact ⟨(h.cell (cell_lt y0)).trans y0, (h.cell (cell_lt y1)).trans y1, (h.cell (cell_lt y2)).trans y2, (h.cell (cell_lt y3)).trans y3, (h.cell (cell_lt y4)).trans y4⟩
theorem convS2 {wa w' : World} {D : Nat} {v0 v1 v2 v3 v4 : Value} {base g n c N : Nat} {l : List Int} {y : Int} (h : Below wa.heap.size wa w') (Y : Hid (wa.cell? ⟨D, 0, none⟩ = some v0 ∧ wa.cell? ⟨D, 1, none⟩ = some v1 ∧ wa.cell? ⟨D, 2, none⟩ = some v2 ∧ wa.cell? ⟨D, 3, none⟩ = some v3 ∧ wa.cell? ⟨D + 1, 1, none⟩ = some v4))
    (ho : Own base w' (.slice (some ⟨g, 0, none⟩) n c) l) (hk : Hid (l[N]? = some y)) :
    w'.cell? ⟨D, 0, none⟩ = some v0 ∧ w'.cell? ⟨D, 1, none⟩ = some v1 ∧ w'.cell? ⟨D, 2, none⟩ = some v2 ∧ w'.cell? ⟨D, 3, none⟩ = some v3 ∧ w'.cell? ⟨D + 1, 1, none⟩ = some v4 ∧ w'.cell? ⟨g, N, none⟩ = some (.int .i64 y) ∧ w'.frozen? ⟨g, N, none⟩ = false := by
  obtain ⟨y0, y1, y2, y3, y4⟩ := convS h Y
  exact ⟨y0, y1, y2, y3, y4, ho.cell hk.out, ho.free N⟩
set_option maxRecDepth 100000 in
set_option maxHeartbeats 2000000 in
theorem mr_Convert_good (A B : Option Addr) (h x : List Int) (c d : Nat) (up down : Nat) (b f r o b' f' r' o' : Int) (w : World) (hh : Ints w A h) (hx : Ints w B x)
    (k1 : okW b f r o = true) (k2 : okW b' f' r' o' = true) (u1 : 1 ≤ up) (u2 : up ≤ 12) (d1 : 1 ≤ down) (d2 : down ≤ 12)
    (hl : h.length ≤ 49) (xl : x.length ≤ 4096) (hu : up * x.length ≤ 4096) (q1 : wordsB b' f' r' o' h = true) (q2 : wordsB b f r o x = true) :
    Calls Try.prog 9 #[.slice A h.length c, .int .i64 up, .int .i64 down, wordV b f r o, wordV b' f' r' o', .slice B x.length d] w (RetInts w (convF b f r o f' h up down x) 0) := by
  have p1 : inB (up : Int) 1 12 = true := inB_iff.2 ⟨by omega, by omega⟩
  have p2 : inB (down : Int) 1 12 = true := inB_iff.2 ⟨by omega, by omega⟩
  have hfl := fits_all q1
  have xfl := fits_all q2
  have HFL : Hid (∀ y ∈ h, -16777216 ≤ y ∧ y ≤ 16777216) := fun y hy => by have := hfl y hy; omega
  have UFL : Hid (∀ y ∈ upF x up, -16777216 ≤ y ∧ y ≤ 16777216) := up_all (by decide) (fun y hy => by have := xfl y hy; omega) up u1
  clear hfl xfl
  obtain ⟨U, hU⟩ : ∃ U, up * x.length = U := ⟨_, rfl⟩
  have hU2 : (up : Int) * (x.length : Int) = (U : Int) := by rw [← hU]; simp
  have hUl : (upF x up).length = U := by rw [← hU]; exact upN_length _ _ _
  rw [hU] at hu
  have HU := Lib.hid hU
  obtain ⟨n, hn⟩ : ∃ n, cnt U 0 down = n := ⟨_, rfl⟩
  have hnU : n ≤ U := by rw [← hn]; exact cnt_le U 0 down d1
  have hn1 : n ≤ 100000000 := by omega
  have hcount : ((U : Int) + (down : Int) - 1) / (down : Int) = (n : Int) := by
    rw [← hn]
    unfold cnt
    rw [Int.natCast_ediv, Nat.sub_zero, show ((U : Int) + (down : Int) - 1) = ((U + down - 1 : Nat) : Int) by omega]
  have HCI : Hid (∀ k, k * down < U ↔ k < n) := fun k => by
    have := cnt_iff (n := U) (fr := 0) (k := k) d1
    rw [Nat.zero_add, hn] at this
    exact this
  have HF : Hid (convF b f r o f' h up down x = convG b f r o f' h (upF x up) down n n) := by
    show _ = _
    rw [convG_all d1 (by rw [hUl]; exact hn.symm)]; rfl
  have HUL := Lib.hid hUl
  clear hU hn hUl
  go_enter Try.func9, Try.ntmps9
  go_wp2_with (first
      | (go_at_call 23; ((with_reducible refine (fx_Valid_is k1 _).mono ?_); rintro e w1 ⟨rfl, hb⟩; obtain ⟨hc, hf⟩ := bcell hb))
      | (go_at_call 23; ((with_reducible refine (fx_Valid_is k2 _).mono ?_); rintro e w1 ⟨rfl, hb1⟩; have hb9 := below_then hb hb1; clear hb hb1 hc hf; have hb := hb9; clear hb9; obtain ⟨hc, hf⟩ := bcell hb))
      | (go_at_call 24; ((with_reducible refine (mr_permitted_is p1 _).mono ?_); rintro e w1 ⟨rfl, rfl⟩))
      | (go_at_call 24; ((with_reducible refine (mr_permitted_is p2 _).mono ?_); rintro e w1 ⟨rfl, rfl⟩))
      | (go_at_call 25; ((with_reducible refine (mr_words_is q1 A c _ (by omega) (hh.grow (below_box2 hb))).mono ?_); rintro e w1 ⟨rfl, hb1⟩; have hb9 := below_then hb hb1; clear hb hb1 hc hf; have hb := hb9; clear hb9; obtain ⟨hc, hf⟩ := bcell hb))
      | (go_at_call 25; ((with_reducible refine (mr_words_is q2 B d _ (by omega) (hx.grow (below_box2 hb))).mono ?_); rintro e w1 ⟨rfl, hb1⟩; have hb9 := below_then hb hb1; clear hb hb1 hc hf; have hb := hb9; clear hb9))
      | (at_make; refine mk_int rfl _ _ rfl w1.heap.size n rfl rfl hcount hn1 (Nat.le_refl _) ?_; intro w2 hown hbm))
  all_goals try (exfalso; omega)
  have hsz1 := below_boxes hb
  have HY : Hid (w1.cell? ⟨w.heap.size, 0, none⟩ = some (.int .i64 b) ∧ w1.cell? ⟨w.heap.size, 1, none⟩ = some (.int .i64 f) ∧ w1.cell? ⟨w.heap.size, 2, none⟩ = some (.int .i64 r) ∧ w1.cell? ⟨w.heap.size, 3, none⟩ = some (.int .i64 o) ∧ w1.cell? ⟨w.heap.size + 1, 1, none⟩ = some (.int .i64 f')) :=
    ⟨(hb.cell (by simp <;> omega)).trans (by simp [go_sem]), (hb.cell (by simp <;> omega)).trans (by simp [go_sem]), (hb.cell (by simp <;> omega)).trans (by simp [go_sem]), (hb.cell (by simp <;> omega)).trans (by simp [go_sem]), (hb.cell (by simp <;> omega)).trans (by simp [go_sem])⟩
  have hh1 := hh.grow (below_box2 hb)
  have hx1 := hx.grow (below_box2 hb)
  have HB := Lib.hid (below_box2 hb)
  have hsw : w.heap.size < w1.heap.size := by omega
  rw [← convG_zero b f r o f' h (upF x up) down n] at hown
  clear hb hh hx
  go_loopw [73] (fun i wr => ∃ N : Nat, N ≤ n ∧ i = .int .i64 N ∧ Own w1.heap.size wr (.slice (some ⟨w1.heap.size, 0, none⟩) n n) (convG b f r o f' h (upF x up) down n N) ∧ Below w1.heap.size w1 wr) (fun i _ => n - (intOf i).toNat)
  case atStart => exact ⟨0, Nat.zero_le _, rfl, hown, hbm⟩
  case round =>
    obtain ⟨N, hN, rfl, hown, hbw⟩ := hrel
    by_cases hlt : N < n
    · have hhr := hh1.grow hbw
      have hxr := hx1.grow hbw
      obtain ⟨T, hT⟩ : ∃ T, N * down = T := ⟨_, rfl⟩
      have hT2 : (N : Int) * (down : Int) = (T : Int) := by rw [← hT]; simp
      have hTU : T < U := by rw [← hT]; exact (HCI.out N).2 hlt
      have HT := Lib.hid hT
      have HS := Lib.hid (convG_succ (b := b) (f := f) (r := r) (o := o) (cf := f') (h := h) (u := upF x up) (down := down) hlt)
      clear hT
      go_wp2
      go_step3
      go_wp2
      go_step3
      go_wp2
      go_loop [17, 81] (fun s i => ∃ K : Nat, ∃ S : Int, K ≤ h.length ∧ i = .int .i64 K ∧ s = .int .i64 S ∧ Hid (S = cS h (upF x up) T K)) (fun _ i => h.length - (intOf i).toNat)
      case atStart => exact ⟨0, 0, Nat.zero_le _, rfl, rfl, rfl⟩
      case round =>
        obtain ⟨K, S, hK, rfl, rfl, HC⟩ := hrel
        have hsb := cS_bound HFL.out UFL.out T K
        rw [← HC.out] at hsb
        by_cases hgo : K < h.length ∧ K ≤ T
        · obtain ⟨hgo1, hgo2⟩ := hgo
          obtain ⟨ad, a, rfl, ba, ha, ca, a1, a2⟩ := hhr.at_ hgo1
          obtain ⟨a3, a4⟩ := HFL.out a (List.mem_of_getElem? ha)
          obtain ⟨D, hD⟩ : ∃ D, T - K = D := ⟨_, rfl⟩
          have hD2 : (T : Int) - (K : Int) = (D : Int) := by omega
          have hDU : D < U := by omega
          have hstep : cS h (upF x up) T (K + 1) = S + a * (if D % up = 0 then el x (D / up) else 0) := by
            show cS h (upF x up) T K + (if K ≤ T then el h K * el (upF x up) (T - K) else 0) = _
            rw [if_pos hgo2, ← HC.out, el_of ha, hD, el_up u1]
          have hm1 : (D : Int) % (up : Int) = ((D % up : Nat) : Int) := by simp
          clear ha hD
          by_cases hr : D % up = 0
          · rw [if_pos hr] at hstep
            rw [hr] at hm1
            have hq1 : (D : Int) / (up : Int) = ((D / up : Nat) : Int) := by simp
            have hql : D / up < x.length := (Nat.div_lt_iff_lt_mul (by omega)).2 (by rw [Nat.mul_comm, HU.out]; exact hDU)
            obtain ⟨q, hq⟩ : ∃ q, D / up = q := ⟨_, rfl⟩
            rw [hq] at hq1 hql hstep
            obtain ⟨ad2, y, rfl, by', hy, cy, y1, y2⟩ := hxr.at_ hql
            rw [el_of hy] at hstep
            have hyb := fits_all q2 y (List.mem_of_getElem? hy)
            have hmb := mul_bound (x := a) (y := y) (B := 16777216) (C := 16777216) ⟨a3, a4⟩ ⟨by omega, by omega⟩
            obtain ⟨P, hP⟩ : ∃ P, a * y = P := ⟨_, rfl⟩
            rw [hP] at hmb hstep
            have HST := Lib.hid hstep
            clear hstep hy hq hr
            have hm0 : (D : Int) % (up : Int) = 0 := hm1
            clear hm1
            go_wp2
            all_goals try (exfalso; omega)
            go_round
            case rel => exact ⟨K + 1, S + P, by omega, by go_num, rfl, HST.out.symm⟩
            case measure => simp [intOf]; omega
          · rw [if_neg hr, Int.mul_zero, Int.add_zero] at hstep
            obtain ⟨q, hq⟩ : ∃ q, D % up = q := ⟨_, rfl⟩
            rw [hq] at hm1 hr
            have hne : ((q : Int) != 0) = true := by simp; omega
            have HST := Lib.hid hstep
            clear hstep hq hr
            go_wp2
            all_goals try (exfalso; omega)
            go_round
            case rel => exact ⟨K + 1, S, by omega, by go_num, rfl, HST.out.symm⟩
            case measure => simp [intOf]; omega
        · have HE : Hid (S = cS h (upF x up) T h.length) := by
            show _ = _
            rw [HC.out]
            rcases Nat.lt_or_ge K h.length with g | g
            · exact (cS_stop (by omega) (by omega)).symm
            · rw [show K = h.length by omega]
          have hI : I64 S := ⟨by omega, by omega⟩
          have HAT : Hid ((convG b f r o f' h (upF x up) down n N)[N]? = some 0) := convG_at hlt
          have hown2 : Own w1.heap.size wr.drew _ _ := hown
          have hbw2 : Below w1.heap.size w1 wr.drew := hbw.drew
          have hsz : w1.heap.size ≤ wr.drew.heap.size := hbw.size
          have n0 : (0 : Int) ≤ (N : Int) := by omega
          have n1 : (N : Int) < (n : Int) := by omega
          rcases Nat.lt_or_ge K h.length with g | g
          · obtain ⟨ad, a, rfl, ba, ha, ca, a1, a2⟩ := hhr.at_ g
            clear ha
            go_wp2_with fail
            go_region_held3 (fun w' => (w'.cell? ⟨w.heap.size, 0, none⟩ = some (.int .i64 b) ∧ w'.cell? ⟨w.heap.size, 1, none⟩ = some (.int .i64 f) ∧ w'.cell? ⟨w.heap.size, 2, none⟩ = some (.int .i64 r) ∧ w'.cell? ⟨w.heap.size, 3, none⟩ = some (.int .i64 o) ∧ w'.cell? ⟨w.heap.size + 1, 1, none⟩ = some (.int .i64 f')))
              (first | exact convS (by assumption) HY | exact convS (below_set (by assumption) (Nat.le_refl _)) HY)
              (first
                | (go_at_call 27; refine (fx_Shift _ _ _ _ hI).mono ?_; rintro e w3 ⟨rfl, hb3⟩; have hown2 := hown2.grow hb3; have hbw2 := hbw2.trans (hb3.mono hsz); have hsz := Nat.le_trans hsz hb3.size; have ct := hown2.cell HAT.out; have cf := hown2.free N)
                | (go_at_call 26; refine (fx_Reduce _ _ _ _ _ _).mono ?_; rintro e w3 ⟨rfl, hb3⟩; have hown2 := hown2.grow hb3; have hbw2 := hbw2.trans (hb3.mono hsz); have hsz := Nat.le_trans hsz hb3.size; have ct := hown2.cell HAT.out; have cf := hown2.free N))
            clear ct cf
            go_wp2
            simp only [go_sem]
            go_wp2
            go_roundw
            case rel => exact ⟨N + 1, by omega, by go_num, by rw [HS.out, HT.out, show cvF b f r o f' h (upF x up) T = reduceW b f r o (shiftF S f' r) from by rw [HE.out]; rfl]; exact hown2.set N (reduce_i64 _ _ _ _ _), below_set hbw2 (Nat.le_refl _)⟩
            case measure => simp [intOf]; omega
          · go_wp2_with fail
            go_region_held3 (fun w' => (w'.cell? ⟨w.heap.size, 0, none⟩ = some (.int .i64 b) ∧ w'.cell? ⟨w.heap.size, 1, none⟩ = some (.int .i64 f) ∧ w'.cell? ⟨w.heap.size, 2, none⟩ = some (.int .i64 r) ∧ w'.cell? ⟨w.heap.size, 3, none⟩ = some (.int .i64 o) ∧ w'.cell? ⟨w.heap.size + 1, 1, none⟩ = some (.int .i64 f')))
              (first | exact convS (by assumption) HY | exact convS (below_set (by assumption) (Nat.le_refl _)) HY)
              (first
                | (go_at_call 27; refine (fx_Shift _ _ _ _ hI).mono ?_; rintro e w3 ⟨rfl, hb3⟩; have hown2 := hown2.grow hb3; have hbw2 := hbw2.trans (hb3.mono hsz); have hsz := Nat.le_trans hsz hb3.size; have ct := hown2.cell HAT.out; have cf := hown2.free N)
                | (go_at_call 26; refine (fx_Reduce _ _ _ _ _ _).mono ?_; rintro e w3 ⟨rfl, hb3⟩; have hown2 := hown2.grow hb3; have hbw2 := hbw2.trans (hb3.mono hsz); have hsz := Nat.le_trans hsz hb3.size; have ct := hown2.cell HAT.out; have cf := hown2.free N))
            clear ct cf
            go_wp2
            simp only [go_sem]
            go_wp2
            go_roundw
            case rel => exact ⟨N + 1, by omega, by go_num, by rw [HS.out, HT.out, show cvF b f r o f' h (upF x up) T = reduceW b f r o (shiftF S f' r) from by rw [HE.out]; rfl]; exact hown2.set N (reduce_i64 _ _ _ _ _), below_set hbw2 (Nat.le_refl _)⟩
            case measure => simp [intOf]; omega
    · obtain rfl : N = n := by omega
      go_wp2
      go_ret2
      rw [HF.out]
      exact RetInts.mk (hown.base (by omega)) (below_then HB.out hbw)
end Go.Proofs.Ytlomhaabiodofaa
