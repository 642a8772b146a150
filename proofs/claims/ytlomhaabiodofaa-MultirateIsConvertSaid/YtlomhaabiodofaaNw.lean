/- The walks of words and of Convert, of package multirate and of its reference: the ways that end in an error. -/
import Derived.Test.YtlomhaabiodofaaMw
import Derived.Test.YtlomhaabiodofaaNc
namespace Go.Proofs.Ytlomhaabiodofaa
open Go.RowKit

theorem below_box2 {w w' : World} {o p : Obj} (h : Below ((w.alloc o).alloc p).heap.size ((w.alloc o).alloc p) w') : Below w.heap.size w w' :=
  (((Below.refl _ _).alloc (Nat.le_refl _) _).alloc (by simp) _).trans (h.mono (by simp; omega))
theorem mr_words (b f r o : Int) (A : Option Addr) (l : List Int) (c : Nat) (w : World) (hl : l.length ≤ 9223372036854775807) (h : Ints w A l) :
    Calls Try.prog 25 #[.slice A l.length c, wordV b f r o] w fun e w' => e = .returned (.bool (wordsB b f r o l)) ∧ Below w.heap.size w w' := by
  go_enter Try.func25, Try.ntmps25
  go_wp2
  go_loopw [6, 9] (fun _ i wr => ∃ k : Nat, k ≤ l.length ∧ i = .int .i64 k ∧ Hid ((l.take k).all (fun x => fitsW b f r o x) = true) ∧ Below (w.heap.size + 1) (w.alloc (.cells #[.int .i64 b, .int .i64 f, .int .i64 r, .int .i64 o] 26)) wr) (fun _ i _ => l.length - (intOf i).toNat)
  case atStart => exact ⟨0, Nat.zero_le _, rfl, rfl, Below.refl _ _⟩
  case round =>
    obtain ⟨k, hk, rfl, HA, hbw⟩ := hrel
    have hz : w.heap.size < wr.heap.size := by have := hbw.size; simp at this; omega
    by_cases hlt : k < l.length
    · obtain ⟨ad, x, rfl, hb, hx, hc, i1, i2⟩ := h.at_ hlt
      have HS := Lib.hid (take_succ_all hx (fun x => fitsW b f r o x))
      have HN := Lib.hid (all_no hx (p := fun x => fitsW b f r o x))
      have x0 : wr.cell? ⟨w.heap.size, 0, none⟩ = some (.int .i64 b) := (hbw.cell (Nat.lt_succ_self _)).trans (by simp [go_sem])
      have x1 : wr.cell? ⟨w.heap.size, 1, none⟩ = some (.int .i64 f) := (hbw.cell (Nat.lt_succ_self _)).trans (by simp [go_sem])
      have x2 : wr.cell? ⟨w.heap.size, 2, none⟩ = some (.int .i64 r) := (hbw.cell (Nat.lt_succ_self _)).trans (by simp [go_sem])
      have x3 : wr.cell? ⟨w.heap.size, 3, none⟩ = some (.int .i64 o) := (hbw.cell (Nat.lt_succ_self _)).trans (by simp [go_sem])
      have xk : wr.cell? (ad.add k) = some (.int .i64 x) := (hbw.cell (by rw [block_add]; omega)).trans ((World.cell?_alloc_lt _ _ _ (by rw [block_add]; omega)).trans hc)
      clear hx hc h
      rcases Bool.eq_false_or_eq_true (fitsW b f r o x) with hin | hin
      · go_wp2_with (go_at_call 44; refine (fx_Fits _ _ _ _ _ _).mono ?_; rintro e w1 ⟨rfl, hb1⟩)
        go_roundw
        case rel => exact ⟨k + 1, by omega, by go_num, by show _ = _; rw [HS.out, HA.out, hin]; rfl, hbw.trans (hb1.mono (by omega))⟩
        case measure => simp [intOf]; omega
      · go_wp2_with (go_at_call 44; refine (fx_Fits _ _ _ _ _ _).mono ?_; rintro e w1 ⟨rfl, hb1⟩)
        go_ret
        exact ⟨ret_bool (HN.out hin).symm, ((Below.refl _ _).alloc (Nat.le_refl _) _).trans ((hbw.trans (hb1.mono (by omega))).mono (by omega))⟩
    · go_wp2
      go_ret
      exact ⟨ret_bool (by have := HA.out; rw [List.take_of_length_le (by omega)] at this; exact this.symm), ((Below.refl _ _).alloc (Nat.le_refl _) _).trans (hbw.mono (by omega))⟩
theorem mr_words_is {b f r o : Int} {l : List Int} {q : Bool} (e : wordsB b f r o l = q) (A : Option Addr) (c : Nat) (w : World) (hl : l.length ≤ 9223372036854775807) (h : Ints w A l) :
    Calls Try.prog 25 #[.slice A l.length c, wordV b f r o] w fun e w' => e = .returned (.bool q) ∧ Below w.heap.size w w' := by
  rw [← e]; exact mr_words b f r o A l c w hl h
theorem rf_Words_is {b f r o : Int} {l : List Int} {q : Bool} (e : wordsB b f r o l = q) (A : Option Addr) (c : Nat) (w : World) (hl : l.length ≤ 9223372036854775807) (h : Ints w A l) :
    Calls Try.prog 33 #[wordV b f r o, .slice A l.length c] w fun e w' => e = .returned (.bool q) ∧ Below w.heap.size w w' := by
  rw [← e]; exact rf_Words b f r o A l c w hl h
theorem mr_permitted_is {m : Int} {q : Bool} (e : inB m 1 12 = q) (w : World) : Calls Try.prog 24 #[.int .i64 m] w fun e w' => e = .returned (.bool q) ∧ w = w' := by rw [← e]; exact mr_permitted m w
theorem rf_factor_is {m : Int} {q : Bool} (e : inB m 1 12 = q) (w : World) : Calls Try.prog 32 #[.int .i64 m] w fun e w' => e = .returned (.bool q) ∧ w = w' := by rw [← e]; exact rf_factor m w
theorem convE_2 {b f r o b' f' r' o' up down : Int} {h x : List Int} (k : okW b f r o = false ∨ okW b' f' r' o' = false) : convE b f r o b' f' r' o' h up down x = 2 := by
  unfold convE; rw [if_neg]; rcases k with k | k <;> simp [k]
theorem convE_20 {b f r o b' f' r' o' up down : Int} {h x : List Int} (k1 : okW b f r o = true) (k2 : okW b' f' r' o' = true) (k : inB up 1 12 = false ∨ inB down 1 12 = false) : convE b f r o b' f' r' o' h up down x = 20 := by
  unfold convE; rw [if_pos (by simp [k1, k2]), if_neg]; rcases k with k | k <;> simp [k]
theorem convE_4 {b f r o b' f' r' o' up down : Int} {h x : List Int} (k1 : okW b f r o = true) (k2 : okW b' f' r' o' = true) (p1 : inB up 1 12 = true) (p2 : inB down 1 12 = true) (k : 49 < h.length ∨ 4096 < x.length ∨ 4096 < up * x.length) : convE b f r o b' f' r' o' h up down x = 4 := by
  unfold convE; rw [if_pos (by simp [k1, k2]), if_pos (by simp [p1, p2]), if_pos k]
theorem convE_17 {b f r o b' f' r' o' up down : Int} {h x : List Int} (k1 : okW b f r o = true) (k2 : okW b' f' r' o' = true) (p1 : inB up 1 12 = true) (p2 : inB down 1 12 = true) (k : ¬ (49 < h.length ∨ 4096 < x.length ∨ 4096 < up * x.length)) (q : wordsB b' f' r' o' h = false ∨ wordsB b f r o x = false) : convE b f r o b' f' r' o' h up down x = 17 := by
  have q' : fitsB b' f' r' o' h = false ∨ fitsB b f r o x = false := q
  unfold convE; rw [if_pos (by simp [k1, k2]), if_pos (by simp [p1, p2]), if_neg k, if_neg]; rcases q' with q | q <;> simp [q]
set_option maxRecDepth 100000 in
set_option maxHeartbeats 1000000 in
theorem mr_Convert_bad (A B : Option Addr) (h x : List Int) (c d : Nat) (up down b f r o b' f' r' o' : Int) (w : World) (hl : h.length ≤ 9223372036854775807) (xl : x.length ≤ 9223372036854775807) (hh : Ints w A h) (hx : Ints w B x) (hbad : convE b f r o b' f' r' o' h up down x ≠ 0) :
    Calls Try.prog 9 #[.slice A h.length c, .int .i64 up, .int .i64 down, wordV b f r o, wordV b' f' r' o', .slice B x.length d] w (RetInts w (convV b f r o b' f' r' o' h up down x) (convE b f r o b' f' r' o' h up down x)) := by
  rcases Bool.eq_false_or_eq_true (okW b f r o) with k1 | k1
  · rcases Bool.eq_false_or_eq_true (okW b' f' r' o') with k2 | k2
    · rcases Bool.eq_false_or_eq_true (inB up 1 12) with p1 | p1
      · rcases Bool.eq_false_or_eq_true (inB down 1 12) with p2 | p2
        · obtain ⟨u1, u2⟩ := inB_iff.1 p1
          obtain ⟨u3, u4⟩ := inB_iff.1 p2
          by_cases l1 : 49 < h.length
          · have hE : convE b f r o b' f' r' o' h up down x = 4 := convE_4 k1 k2 p1 p2 (.inl l1)
            rw [conv_bad hE (by decide), hE]
            clear hE
            go_enter Try.func9, Try.ntmps9
            go_wp2_with (first
        | (go_at_call 23; ((with_reducible refine (fx_Valid_is k1 _).mono ?_); rintro e w1 ⟨rfl, hb⟩; obtain ⟨hc, hf⟩ := bcell hb))
        | (go_at_call 23; ((with_reducible refine (fx_Valid_is k2 _).mono ?_); rintro e w1 ⟨rfl, hb1⟩; have hb9 := below_then hb hb1; clear hb hb1 hc hf; have hb := hb9; clear hb9; obtain ⟨hc, hf⟩ := bcell hb))
        | (go_at_call 24; ((with_reducible refine (mr_permitted_is p1 _).mono ?_); rintro e w1 ⟨rfl, rfl⟩))
        | (go_at_call 24; ((with_reducible refine (mr_permitted_is p2 _).mono ?_); rintro e w1 ⟨rfl, rfl⟩)))
            all_goals try (exfalso; omega)
            all_goals go_ret2
            all_goals exact RetInts.mk Own.nil (below_box2 hb)
          by_cases l2 : 4096 < x.length
          · have hE : convE b f r o b' f' r' o' h up down x = 4 := convE_4 k1 k2 p1 p2 (.inr (.inl l2))
            rw [conv_bad hE (by decide), hE]
            clear hE
            go_enter Try.func9, Try.ntmps9
            go_wp2_with (first
        | (go_at_call 23; ((with_reducible refine (fx_Valid_is k1 _).mono ?_); rintro e w1 ⟨rfl, hb⟩; obtain ⟨hc, hf⟩ := bcell hb))
        | (go_at_call 23; ((with_reducible refine (fx_Valid_is k2 _).mono ?_); rintro e w1 ⟨rfl, hb1⟩; have hb9 := below_then hb hb1; clear hb hb1 hc hf; have hb := hb9; clear hb9; obtain ⟨hc, hf⟩ := bcell hb))
        | (go_at_call 24; ((with_reducible refine (mr_permitted_is p1 _).mono ?_); rintro e w1 ⟨rfl, rfl⟩))
        | (go_at_call 24; ((with_reducible refine (mr_permitted_is p2 _).mono ?_); rintro e w1 ⟨rfl, rfl⟩)))
            all_goals try (exfalso; omega)
            all_goals go_ret2
            all_goals exact RetInts.mk Own.nil (below_box2 hb)
          obtain ⟨U, hU⟩ : ∃ U, up * (x.length : Int) = U := ⟨_, rfl⟩
          have hU1 := mul_bound (x := up) (y := (x.length : Int)) (B := 12) (C := 4096) ⟨by omega, by omega⟩ ⟨by omega, by omega⟩
          rw [hU] at hU1
          by_cases l3 : 4096 < U
          · have hE : convE b f r o b' f' r' o' h up down x = 4 := convE_4 k1 k2 p1 p2 (.inr (.inr (by rw [hU]; exact l3)))
            rw [conv_bad hE (by decide), hE]
            clear hE
            go_enter Try.func9, Try.ntmps9
            go_wp2_with (first
        | (go_at_call 23; ((with_reducible refine (fx_Valid_is k1 _).mono ?_); rintro e w1 ⟨rfl, hb⟩; obtain ⟨hc, hf⟩ := bcell hb))
        | (go_at_call 23; ((with_reducible refine (fx_Valid_is k2 _).mono ?_); rintro e w1 ⟨rfl, hb1⟩; have hb9 := below_then hb hb1; clear hb hb1 hc hf; have hb := hb9; clear hb9; obtain ⟨hc, hf⟩ := bcell hb))
        | (go_at_call 24; ((with_reducible refine (mr_permitted_is p1 _).mono ?_); rintro e w1 ⟨rfl, rfl⟩))
        | (go_at_call 24; ((with_reducible refine (mr_permitted_is p2 _).mono ?_); rintro e w1 ⟨rfl, rfl⟩)))
            all_goals try (exfalso; omega)
            all_goals go_ret2
            all_goals exact RetInts.mk Own.nil (below_box2 hb)
          have hlong : ¬ (49 < h.length ∨ 4096 < x.length ∨ 4096 < up * x.length) := by rw [hU]; omega
          rcases Bool.eq_false_or_eq_true (wordsB b' f' r' o' h) with q1 | q1
          · rcases Bool.eq_false_or_eq_true (wordsB b f r o x) with q2 | q2
            · exfalso
              apply hbad
              unfold convE
              rw [if_pos (by simp [k1, k2]), if_pos (by simp [p1, p2]), if_neg hlong, if_pos]
              have e1 : fitsB b' f' r' o' h = true := q1
              have e2 : fitsB b f r o x = true := q2
              rw [e1, e2]; rfl
            · have hE : convE b f r o b' f' r' o' h up down x = 17 := convE_17 k1 k2 p1 p2 hlong (.inr q2)
              rw [conv_bad hE (by decide), hE]
              clear hE hlong hbad
              go_enter Try.func9, Try.ntmps9
              go_wp2_with (first
        | (go_at_call 23; ((with_reducible refine (fx_Valid_is k1 _).mono ?_); rintro e w1 ⟨rfl, hb⟩; obtain ⟨hc, hf⟩ := bcell hb))
        | (go_at_call 23; ((with_reducible refine (fx_Valid_is k2 _).mono ?_); rintro e w1 ⟨rfl, hb1⟩; have hb9 := below_then hb hb1; clear hb hb1 hc hf; have hb := hb9; clear hb9; obtain ⟨hc, hf⟩ := bcell hb))
        | (go_at_call 24; ((with_reducible refine (mr_permitted_is p1 _).mono ?_); rintro e w1 ⟨rfl, rfl⟩))
        | (go_at_call 24; ((with_reducible refine (mr_permitted_is p2 _).mono ?_); rintro e w1 ⟨rfl, rfl⟩))
        | (go_at_call 25; ((with_reducible refine (mr_words_is q1 A c _ (by omega) (hh.grow (below_box2 hb))).mono ?_); rintro e w1 ⟨rfl, hb1⟩; have hb9 := below_then hb hb1; clear hb hb1 hc hf; have hb := hb9; clear hb9; obtain ⟨hc, hf⟩ := bcell hb))
        | (go_at_call 25; ((with_reducible refine (mr_words_is q2 B d _ (by omega) (hx.grow (below_box2 hb))).mono ?_); rintro e w1 ⟨rfl, hb1⟩; have hb9 := below_then hb hb1; clear hb hb1 hc hf; have hb := hb9; clear hb9; obtain ⟨hc, hf⟩ := bcell hb)))
              all_goals try (exfalso; omega)
              all_goals go_ret2
              all_goals exact RetInts.mk Own.nil (below_box2 hb)
          · have hE : convE b f r o b' f' r' o' h up down x = 17 := convE_17 k1 k2 p1 p2 hlong (.inl q1)
            rw [conv_bad hE (by decide), hE]
            clear hE hlong hbad
            go_enter Try.func9, Try.ntmps9
            go_wp2_with (first
        | (go_at_call 23; ((with_reducible refine (fx_Valid_is k1 _).mono ?_); rintro e w1 ⟨rfl, hb⟩; obtain ⟨hc, hf⟩ := bcell hb))
        | (go_at_call 23; ((with_reducible refine (fx_Valid_is k2 _).mono ?_); rintro e w1 ⟨rfl, hb1⟩; have hb9 := below_then hb hb1; clear hb hb1 hc hf; have hb := hb9; clear hb9; obtain ⟨hc, hf⟩ := bcell hb))
        | (go_at_call 24; ((with_reducible refine (mr_permitted_is p1 _).mono ?_); rintro e w1 ⟨rfl, rfl⟩))
        | (go_at_call 24; ((with_reducible refine (mr_permitted_is p2 _).mono ?_); rintro e w1 ⟨rfl, rfl⟩))
        | (go_at_call 25; ((with_reducible refine (mr_words_is q1 A c _ (by omega) (hh.grow (below_box2 hb))).mono ?_); rintro e w1 ⟨rfl, hb1⟩; have hb9 := below_then hb hb1; clear hb hb1 hc hf; have hb := hb9; clear hb9; obtain ⟨hc, hf⟩ := bcell hb)))
            all_goals try (exfalso; omega)
            all_goals go_ret2
            all_goals exact RetInts.mk Own.nil (below_box2 hb)
        · have hE : convE b f r o b' f' r' o' h up down x = 20 := convE_20 k1 k2 (.inr p2)
          rw [conv_bad hE (by decide), hE]
          clear hE
          go_enter Try.func9, Try.ntmps9
          go_wp2_with (first
        | (go_at_call 23; ((with_reducible refine (fx_Valid_is k1 _).mono ?_); rintro e w1 ⟨rfl, hb⟩; obtain ⟨hc, hf⟩ := bcell hb))
        | (go_at_call 23; ((with_reducible refine (fx_Valid_is k2 _).mono ?_); rintro e w1 ⟨rfl, hb1⟩; have hb9 := below_then hb hb1; clear hb hb1 hc hf; have hb := hb9; clear hb9; obtain ⟨hc, hf⟩ := bcell hb))
        | (go_at_call 24; ((with_reducible refine (mr_permitted_is p1 _).mono ?_); rintro e w1 ⟨rfl, rfl⟩))
        | (go_at_call 24; ((with_reducible refine (mr_permitted_is p2 _).mono ?_); rintro e w1 ⟨rfl, rfl⟩)))
          all_goals try (exfalso; omega)
          all_goals go_ret2
          all_goals exact RetInts.mk Own.nil (below_box2 hb)
      · have hE : convE b f r o b' f' r' o' h up down x = 20 := convE_20 k1 k2 (.inl p1)
        rw [conv_bad hE (by decide), hE]
        clear hE
        go_enter Try.func9, Try.ntmps9
        go_wp2_with (first
        | (go_at_call 23; ((with_reducible refine (fx_Valid_is k1 _).mono ?_); rintro e w1 ⟨rfl, hb⟩; obtain ⟨hc, hf⟩ := bcell hb))
        | (go_at_call 23; ((with_reducible refine (fx_Valid_is k2 _).mono ?_); rintro e w1 ⟨rfl, hb1⟩; have hb9 := below_then hb hb1; clear hb hb1 hc hf; have hb := hb9; clear hb9; obtain ⟨hc, hf⟩ := bcell hb))
        | (go_at_call 24; ((with_reducible refine (mr_permitted_is p1 _).mono ?_); rintro e w1 ⟨rfl, rfl⟩)))
        all_goals try (exfalso; omega)
        all_goals go_ret2
        all_goals exact RetInts.mk Own.nil (below_box2 hb)
    · have hE : convE b f r o b' f' r' o' h up down x = 2 := convE_2 (.inr k2)
      rw [conv_bad hE (by decide), hE]
      clear hE
      go_enter Try.func9, Try.ntmps9
      go_wp2_with (first
        | (go_at_call 23; ((with_reducible refine (fx_Valid_is k1 _).mono ?_); rintro e w1 ⟨rfl, hb⟩; obtain ⟨hc, hf⟩ := bcell hb))
        | (go_at_call 23; ((with_reducible refine (fx_Valid_is k2 _).mono ?_); rintro e w1 ⟨rfl, hb1⟩; have hb9 := below_then hb hb1; clear hb hb1 hc hf; have hb := hb9; clear hb9; obtain ⟨hc, hf⟩ := bcell hb)))
      all_goals try (exfalso; omega)
      all_goals go_ret2
      all_goals exact RetInts.mk Own.nil (below_box2 hb)
  · have hE : convE b f r o b' f' r' o' h up down x = 2 := convE_2 (.inl k1)
    rw [conv_bad hE (by decide), hE]
    clear hE
    go_enter Try.func9, Try.ntmps9
    go_wp2_with (first
        | (go_at_call 23; ((with_reducible refine (fx_Valid_is k1 _).mono ?_); rintro e w1 ⟨rfl, hb⟩; obtain ⟨hc, hf⟩ := bcell hb)))
    all_goals try (exfalso; omega)
    all_goals go_ret2
    all_goals exact RetInts.mk Own.nil (below_box2 hb)
set_option maxRecDepth 100000 in
set_option maxHeartbeats 1000000 in
theorem rf_Convert_bad (A B : Option Addr) (h x : List Int) (c d : Nat) (up down b f r o b' f' r' o' : Int) (w : World) (hl : h.length ≤ 9223372036854775807) (xl : x.length ≤ 9223372036854775807) (hh : Ints w A h) (hx : Ints w B x) (hbad : convE b f r o b' f' r' o' h up down x ≠ 0) :
    Calls Try.prog 16 #[.slice A h.length c, .int .i64 up, .int .i64 down, wordV b f r o, wordV b' f' r' o', .slice B x.length d] w (RetInts w (convV b f r o b' f' r' o' h up down x) (convE b f r o b' f' r' o' h up down x)) := by
  rcases Bool.eq_false_or_eq_true (okW b f r o) with k1 | k1
  · rcases Bool.eq_false_or_eq_true (okW b' f' r' o') with k2 | k2
    · rcases Bool.eq_false_or_eq_true (inB up 1 12) with p1 | p1
      · rcases Bool.eq_false_or_eq_true (inB down 1 12) with p2 | p2
        · obtain ⟨u1, u2⟩ := inB_iff.1 p1
          obtain ⟨u3, u4⟩ := inB_iff.1 p2
          by_cases l1 : 49 < h.length
          · have hE : convE b f r o b' f' r' o' h up down x = 4 := convE_4 k1 k2 p1 p2 (.inl l1)
            rw [conv_bad hE (by decide), hE]
            clear hE
            go_enter Try.func16, Try.ntmps16
            go_wp2_with (first
        | (go_at_call 31; ((with_reducible refine (rf_Valid_is k1 _).mono ?_); rintro e w1 ⟨rfl, hb⟩; obtain ⟨hc, hf⟩ := bcell hb))
        | (go_at_call 31; ((with_reducible refine (rf_Valid_is k2 _).mono ?_); rintro e w1 ⟨rfl, hb1⟩; have hb9 := below_then hb hb1; clear hb hb1 hc hf; have hb := hb9; clear hb9; obtain ⟨hc, hf⟩ := bcell hb))
        | (go_at_call 32; ((with_reducible refine (rf_factor_is p1 _).mono ?_); rintro e w1 ⟨rfl, rfl⟩))
        | (go_at_call 32; ((with_reducible refine (rf_factor_is p2 _).mono ?_); rintro e w1 ⟨rfl, rfl⟩)))
            all_goals try (exfalso; omega)
            all_goals go_ret2
            all_goals exact RetInts.mk Own.nil (below_box2 hb)
          by_cases l2 : 4096 < x.length
          · have hE : convE b f r o b' f' r' o' h up down x = 4 := convE_4 k1 k2 p1 p2 (.inr (.inl l2))
            rw [conv_bad hE (by decide), hE]
            clear hE
            go_enter Try.func16, Try.ntmps16
            go_wp2_with (first
        | (go_at_call 31; ((with_reducible refine (rf_Valid_is k1 _).mono ?_); rintro e w1 ⟨rfl, hb⟩; obtain ⟨hc, hf⟩ := bcell hb))
        | (go_at_call 31; ((with_reducible refine (rf_Valid_is k2 _).mono ?_); rintro e w1 ⟨rfl, hb1⟩; have hb9 := below_then hb hb1; clear hb hb1 hc hf; have hb := hb9; clear hb9; obtain ⟨hc, hf⟩ := bcell hb))
        | (go_at_call 32; ((with_reducible refine (rf_factor_is p1 _).mono ?_); rintro e w1 ⟨rfl, rfl⟩))
        | (go_at_call 32; ((with_reducible refine (rf_factor_is p2 _).mono ?_); rintro e w1 ⟨rfl, rfl⟩)))
            all_goals try (exfalso; omega)
            all_goals go_ret2
            all_goals exact RetInts.mk Own.nil (below_box2 hb)
          obtain ⟨U, hU⟩ : ∃ U, up * (x.length : Int) = U := ⟨_, rfl⟩
          have hU1 := mul_bound (x := up) (y := (x.length : Int)) (B := 12) (C := 4096) ⟨by omega, by omega⟩ ⟨by omega, by omega⟩
          rw [hU] at hU1
          by_cases l3 : 4096 < U
          · have hE : convE b f r o b' f' r' o' h up down x = 4 := convE_4 k1 k2 p1 p2 (.inr (.inr (by rw [hU]; exact l3)))
            rw [conv_bad hE (by decide), hE]
            clear hE
            go_enter Try.func16, Try.ntmps16
            go_wp2_with (first
        | (go_at_call 31; ((with_reducible refine (rf_Valid_is k1 _).mono ?_); rintro e w1 ⟨rfl, hb⟩; obtain ⟨hc, hf⟩ := bcell hb))
        | (go_at_call 31; ((with_reducible refine (rf_Valid_is k2 _).mono ?_); rintro e w1 ⟨rfl, hb1⟩; have hb9 := below_then hb hb1; clear hb hb1 hc hf; have hb := hb9; clear hb9; obtain ⟨hc, hf⟩ := bcell hb))
        | (go_at_call 32; ((with_reducible refine (rf_factor_is p1 _).mono ?_); rintro e w1 ⟨rfl, rfl⟩))
        | (go_at_call 32; ((with_reducible refine (rf_factor_is p2 _).mono ?_); rintro e w1 ⟨rfl, rfl⟩)))
            all_goals try (exfalso; omega)
            all_goals go_ret2
            all_goals exact RetInts.mk Own.nil (below_box2 hb)
          have hlong : ¬ (49 < h.length ∨ 4096 < x.length ∨ 4096 < up * x.length) := by rw [hU]; omega
          rcases Bool.eq_false_or_eq_true (wordsB b' f' r' o' h) with q1 | q1
          · rcases Bool.eq_false_or_eq_true (wordsB b f r o x) with q2 | q2
            · exfalso
              apply hbad
              unfold convE
              rw [if_pos (by simp [k1, k2]), if_pos (by simp [p1, p2]), if_neg hlong, if_pos]
              have e1 : fitsB b' f' r' o' h = true := q1
              have e2 : fitsB b f r o x = true := q2
              rw [e1, e2]; rfl
            · have hE : convE b f r o b' f' r' o' h up down x = 17 := convE_17 k1 k2 p1 p2 hlong (.inr q2)
              rw [conv_bad hE (by decide), hE]
              clear hE hlong hbad
              go_enter Try.func16, Try.ntmps16
              go_wp2_with (first
        | (go_at_call 31; ((with_reducible refine (rf_Valid_is k1 _).mono ?_); rintro e w1 ⟨rfl, hb⟩; obtain ⟨hc, hf⟩ := bcell hb))
        | (go_at_call 31; ((with_reducible refine (rf_Valid_is k2 _).mono ?_); rintro e w1 ⟨rfl, hb1⟩; have hb9 := below_then hb hb1; clear hb hb1 hc hf; have hb := hb9; clear hb9; obtain ⟨hc, hf⟩ := bcell hb))
        | (go_at_call 32; ((with_reducible refine (rf_factor_is p1 _).mono ?_); rintro e w1 ⟨rfl, rfl⟩))
        | (go_at_call 32; ((with_reducible refine (rf_factor_is p2 _).mono ?_); rintro e w1 ⟨rfl, rfl⟩))
        | (go_at_call 33; ((with_reducible refine (rf_Words_is q1 A c _ (by omega) (hh.grow (below_box2 hb))).mono ?_); rintro e w1 ⟨rfl, hb1⟩; have hb9 := below_then hb hb1; clear hb hb1 hc hf; have hb := hb9; clear hb9; obtain ⟨hc, hf⟩ := bcell hb))
        | (go_at_call 33; ((with_reducible refine (rf_Words_is q2 B d _ (by omega) (hx.grow (below_box2 hb))).mono ?_); rintro e w1 ⟨rfl, hb1⟩; have hb9 := below_then hb hb1; clear hb hb1 hc hf; have hb := hb9; clear hb9; obtain ⟨hc, hf⟩ := bcell hb)))
              all_goals try (exfalso; omega)
              all_goals go_ret2
              all_goals exact RetInts.mk Own.nil (below_box2 hb)
          · have hE : convE b f r o b' f' r' o' h up down x = 17 := convE_17 k1 k2 p1 p2 hlong (.inl q1)
            rw [conv_bad hE (by decide), hE]
            clear hE hlong hbad
            go_enter Try.func16, Try.ntmps16
            go_wp2_with (first
        | (go_at_call 31; ((with_reducible refine (rf_Valid_is k1 _).mono ?_); rintro e w1 ⟨rfl, hb⟩; obtain ⟨hc, hf⟩ := bcell hb))
        | (go_at_call 31; ((with_reducible refine (rf_Valid_is k2 _).mono ?_); rintro e w1 ⟨rfl, hb1⟩; have hb9 := below_then hb hb1; clear hb hb1 hc hf; have hb := hb9; clear hb9; obtain ⟨hc, hf⟩ := bcell hb))
        | (go_at_call 32; ((with_reducible refine (rf_factor_is p1 _).mono ?_); rintro e w1 ⟨rfl, rfl⟩))
        | (go_at_call 32; ((with_reducible refine (rf_factor_is p2 _).mono ?_); rintro e w1 ⟨rfl, rfl⟩))
        | (go_at_call 33; ((with_reducible refine (rf_Words_is q1 A c _ (by omega) (hh.grow (below_box2 hb))).mono ?_); rintro e w1 ⟨rfl, hb1⟩; have hb9 := below_then hb hb1; clear hb hb1 hc hf; have hb := hb9; clear hb9; obtain ⟨hc, hf⟩ := bcell hb)))
            all_goals try (exfalso; omega)
            all_goals go_ret2
            all_goals exact RetInts.mk Own.nil (below_box2 hb)
        · have hE : convE b f r o b' f' r' o' h up down x = 20 := convE_20 k1 k2 (.inr p2)
          rw [conv_bad hE (by decide), hE]
          clear hE
          go_enter Try.func16, Try.ntmps16
          go_wp2_with (first
        | (go_at_call 31; ((with_reducible refine (rf_Valid_is k1 _).mono ?_); rintro e w1 ⟨rfl, hb⟩; obtain ⟨hc, hf⟩ := bcell hb))
        | (go_at_call 31; ((with_reducible refine (rf_Valid_is k2 _).mono ?_); rintro e w1 ⟨rfl, hb1⟩; have hb9 := below_then hb hb1; clear hb hb1 hc hf; have hb := hb9; clear hb9; obtain ⟨hc, hf⟩ := bcell hb))
        | (go_at_call 32; ((with_reducible refine (rf_factor_is p1 _).mono ?_); rintro e w1 ⟨rfl, rfl⟩))
        | (go_at_call 32; ((with_reducible refine (rf_factor_is p2 _).mono ?_); rintro e w1 ⟨rfl, rfl⟩)))
          all_goals try (exfalso; omega)
          all_goals go_ret2
          all_goals exact RetInts.mk Own.nil (below_box2 hb)
      · have hE : convE b f r o b' f' r' o' h up down x = 20 := convE_20 k1 k2 (.inl p1)
        rw [conv_bad hE (by decide), hE]
        clear hE
        go_enter Try.func16, Try.ntmps16
        go_wp2_with (first
        | (go_at_call 31; ((with_reducible refine (rf_Valid_is k1 _).mono ?_); rintro e w1 ⟨rfl, hb⟩; obtain ⟨hc, hf⟩ := bcell hb))
        | (go_at_call 31; ((with_reducible refine (rf_Valid_is k2 _).mono ?_); rintro e w1 ⟨rfl, hb1⟩; have hb9 := below_then hb hb1; clear hb hb1 hc hf; have hb := hb9; clear hb9; obtain ⟨hc, hf⟩ := bcell hb))
        | (go_at_call 32; ((with_reducible refine (rf_factor_is p1 _).mono ?_); rintro e w1 ⟨rfl, rfl⟩)))
        all_goals try (exfalso; omega)
        all_goals go_ret2
        all_goals exact RetInts.mk Own.nil (below_box2 hb)
    · have hE : convE b f r o b' f' r' o' h up down x = 2 := convE_2 (.inr k2)
      rw [conv_bad hE (by decide), hE]
      clear hE
      go_enter Try.func16, Try.ntmps16
      go_wp2_with (first
        | (go_at_call 31; ((with_reducible refine (rf_Valid_is k1 _).mono ?_); rintro e w1 ⟨rfl, hb⟩; obtain ⟨hc, hf⟩ := bcell hb))
        | (go_at_call 31; ((with_reducible refine (rf_Valid_is k2 _).mono ?_); rintro e w1 ⟨rfl, hb1⟩; have hb9 := below_then hb hb1; clear hb hb1 hc hf; have hb := hb9; clear hb9; obtain ⟨hc, hf⟩ := bcell hb)))
      all_goals try (exfalso; omega)
      all_goals go_ret2
      all_goals exact RetInts.mk Own.nil (below_box2 hb)
  · have hE : convE b f r o b' f' r' o' h up down x = 2 := convE_2 (.inl k1)
    rw [conv_bad hE (by decide), hE]
    clear hE
    go_enter Try.func16, Try.ntmps16
    go_wp2_with (first
        | (go_at_call 31; ((with_reducible refine (rf_Valid_is k1 _).mono ?_); rintro e w1 ⟨rfl, hb⟩; obtain ⟨hc, hf⟩ := bcell hb)))
    all_goals try (exfalso; omega)
    all_goals go_ret2
    all_goals exact RetInts.mk Own.nil (below_box2 hb)
end Go.Proofs.Ytlomhaabiodofaa
