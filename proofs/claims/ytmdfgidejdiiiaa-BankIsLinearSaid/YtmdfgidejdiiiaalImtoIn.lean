/- Several texts in one: Im In. -/
import Derived.Test.YtmdfgidejdiiiaalIh
set_option linter.unusedVariables false
set_option linter.unusedSimpArgs false
section
namespace Go.Proofs.Ytmdfgidejdiiiaa
open Go.RowKit
set_option maxRecDepth 100000 in
set_option maxHeartbeats 4000000 in
theorem r2_Trim (v : Value) (x : Int) (K b : Nat) (w : World) (h : IntB b w v x K) (h9 : K ≤ 10000000) : Calls Try.prog 103 #[v] w (RetI w x K) := by
  obtain ⟨na, A, n, c, X, rfl, hX, hn, hc, hnK, rfl⟩ := h
  have CT : Hid (∀ w1, Below w.heap.size w w1 → Calls Try.prog 100 #[.slice A n c] w1 (RetN w1 (nv X) n)) := Lib.hid fun w1 hb => r1_Trim A n c X w1 (hX.1.grow hb) hn hc (by omega)
  have HK := Lib.hid hnK
  obtain ⟨x, hx⟩ : ∃ x, nv X = x := ⟨_, rfl⟩
  rw [hx] at CT ⊢
  clear hX hn hc hnK hx
  obtain ⟨dI, hI1, hI2⟩ := row_Int
  have HI := Lib.hid (And.intro hI1 hI2)
  clear hI1 hI2
  go_enter Try.func103, Try.ntmps103
  go_upto_region 1 with fail
  have hB0 : Below w.heap.size w ((w.alloc (.cells #[.bool na, .slice A n c] 26)).alloc (.cells #[.bool false, .slice none 0 0] 26)) := (((Below.refl _ _).alloc (Nat.le_refl _) _).alloc (by simp; try omega) _)
  have bx0 : Box ((w.alloc (.cells #[.bool na, .slice A n c] 26)).alloc (.cells #[.bool false, .slice none 0 0] 26)) (w.heap.size) [.bool na, .slice A n c] := ((Box.new (by simp)).alloc _)
  have bx1 : Box ((w.alloc (.cells #[.bool na, .slice A n c] 26)).alloc (.cells #[.bool false, .slice none 0 0] 26)) (w.heap.size + 1) [.bool false, .slice none 0 0] := (Box.new (by simp))
  generalize (w.alloc (.cells #[.bool na, .slice A n c] 26)).alloc (.cells #[.bool false, .slice none 0 0] 26) = wA at hB0 bx0 bx1 ⊢
  have HA := Lib.hid (And.intro hB0 (And.intro bx0 bx1))
  clear hB0 bx0 bx1
  have x1 : wA.cell? ⟨w.heap.size, 1, none⟩ = some (.slice A n c) := HA.out.2.1.2.1 1
  go_upto_region 2 with (go_at_call 100; (with_reducible refine (CT.out _ HA.out.1).mono ?_); rintro e1 w1 ⟨v1, l1, rfl, o1, n1, m1, k1, hb1⟩; obtain ⟨A1, c1, rfl, -, -⟩ := o1.form; have HB1 := Lib.hid hb1; have H1 := Lib.hid (And.intro o1 (And.intro n1 (And.intro m1 k1))); clear o1 n1 m1 k1 hb1)
  have y0 : w1.cell? ⟨w.heap.size, 0, none⟩ = some (.bool na) := (HA.out.2.1.keep HB1.out).2.1 0
  clear x1
  cases na with
  | false =>
    have hlt : w.heap.size + 1 < w1.heap.size := Nat.lt_of_lt_of_le HA.out.2.2.1 HB1.out.size
    go_wp2_with ((with_reducible show wpList _ _ _ (Oper.mk none (.store 26 _ _) _ _ _ _ :: _) _ _); refine wp_st rfl 26 _ _ rfl (w.heap.size + 1) 0 [_, _] rfl rfl size_Int rfl (HA.out.2.2.keep HB1.out) (Nat.le_refl _) rfl ?_; intro W9 c9 g9)
    have hW := put_facts (g := w.heap.size + 1) (below_then HA.out.1 HB1.out) (by omega) g9
    have ho := (H1.out.1.away g9 HA.out.2.2.1).base (base' := w.heap.size) HA.out.1.size
    refine bodyPost_ret (resC rfl _ _ W9 (g := w.heap.size + 1) rfl (res_box 26 c9 dI HI.out.1 HI.out.2 size_Int)) rfl ?_
    exact ⟨_, rfl, ⟨_, A1, c1, l1, rfl, ho, H1.out.2.2.1, Nat.le_trans H1.out.2.2.2 HK.out, by rw [H1.out.2.1]⟩, hW⟩
  | true =>
    obtain ⟨q, hq⟩ : ∃ q, l1.length = q := ⟨_, rfl⟩
    by_cases hq0 : q = 0
    · subst hq0
      have hz : l1 = [] := List.length_eq_zero_iff.1 hq
      subst hz
      clear hq
      have hlt : w.heap.size + 1 < w1.heap.size := Nat.lt_of_lt_of_le HA.out.2.2.1 HB1.out.size
      go_wp2_with ((with_reducible show wpList _ _ _ (Oper.mk none (.store 26 _ _) _ _ _ _ :: _) _ _); refine wp_st rfl 26 _ _ rfl (w.heap.size + 1) 0 [_, _] rfl rfl size_Int rfl (HA.out.2.2.keep HB1.out) (Nat.le_refl _) rfl ?_; intro W9 c9 g9)
      have hW := put_facts (g := w.heap.size + 1) (below_then HA.out.1 HB1.out) (by omega) g9
      have ho := (H1.out.1.away g9 HA.out.2.2.1).base (base' := w.heap.size) HA.out.1.size
      refine bodyPost_ret (resC rfl _ _ W9 (g := w.heap.size + 1) rfl (res_box 26 c9 dI HI.out.1 HI.out.2 size_Int)) rfl ?_
      exact ⟨_, rfl, ⟨_, A1, c1, [], rfl, ho, H1.out.2.2.1, Nat.le_trans H1.out.2.2.2 HK.out, by rw [← H1.out.2.1]; rfl⟩, hW⟩
    · have hq1 : (0 : Int) < (q : Int) := by omega
      have hq2 : 0 < l1.length := by omega
      rw [hq]
      clear hq0
      have hlt : w.heap.size + 1 < w1.heap.size := Nat.lt_of_lt_of_le HA.out.2.2.1 HB1.out.size
      go_wp2_with ((with_reducible show wpList _ _ _ (Oper.mk none (.store 26 _ _) _ _ _ _ :: _) _ _); refine wp_st rfl 26 _ _ rfl (w.heap.size + 1) 0 [_, _] rfl rfl size_Int rfl (HA.out.2.2.keep HB1.out) (Nat.le_refl _) rfl ?_; intro W9 c9 g9)
      have hW := put_facts (g := w.heap.size + 1) (below_then HA.out.1 HB1.out) (by omega) g9
      have ho := (H1.out.1.away g9 HA.out.2.2.1).base (base' := w.heap.size) HA.out.1.size
      refine bodyPost_ret (resC rfl _ _ W9 (g := w.heap.size + 1) rfl (res_box 26 c9 dI HI.out.1 HI.out.2 size_Int)) rfl ?_
      rw [← hq]
      exact ⟨_, rfl, ⟨_, A1, c1, l1, rfl, ho, H1.out.2.2.1, Nat.le_trans H1.out.2.2.2 HK.out, by rw [H1.out.2.1, decide_eq_true hq2]⟩, hW⟩
theorem IntO.low {b : Nat} {w : World} {g : Bool} {A : Option Addr} {n c : Nat} {l : List Int} {z : Int} {K : Nat} (h : IntO b w (.agg #[.bool g, .slice A n c]) z K) : ∃ l, OwG b w (.slice A n c) l ∧ Nrm l ∧ l.length = n ∧ n ≤ K ∧ sgn g (nv l) = z := by
  obtain ⟨g', A', c', l', e, o, m, k, s⟩ := h
  simp at e
  obtain ⟨rfl, rfl, rfl, rfl⟩ := e
  exact ⟨l', o, m, rfl, k, s⟩
theorem sgn_of {g : Bool} {l : List Int} {z : Int} (hd : Dig l) (hn : Nrm l) (h : sgn g (nv l) = z) : (l = [] → cmpI z 0 = 0) ∧ (l ≠ [] → g = true → cmpI z 0 = -1) ∧ (l ≠ [] → g = false → cmpI z 0 = 1) := by
  have h0 := nv_low hd
  refine ⟨fun e => ?_, fun e g' => ?_, fun e g' => ?_⟩
  · subst e
    have : z = 0 := by rw [← h]; cases g <;> simp [sgn, nv]
    subst this; rfl
  · have hne : nv l ≠ 0 := fun e' => e ((nrm_zero hd hn).1 e')
    subst g'
    have : z < 0 := by rw [← h]; show -nv l < 0; omega
    unfold cmpI; rw [if_pos this]
  · have hne : nv l ≠ 0 := fun e' => e ((nrm_zero hd hn).1 e')
    subst g'
    have : 0 < z := by rw [← h]; show 0 < nv l; omega
    unfold cmpI; rw [if_neg (by omega), if_neg (by omega)]
set_option maxRecDepth 100000 in
set_option maxHeartbeats 4000000 in
theorem r2_Sign (v : Value) (x : Int) (K b : Nat) (w : World) (h : IntB b w v x K) (h9 : K ≤ 10000000) : Calls Try.prog 101 #[v] w fun e w' => e = .returned (.int .i64 (cmpI x 0)) ∧ Below w.heap.size w w' := by
  have CT : Hid (∀ w1, Below w.heap.size w w1 → Calls Try.prog 103 #[v] w1 (RetI w1 x K)) := Lib.hid fun w1 hb => r2_Trim v x K b w1 (h.grow hb) h9
  obtain ⟨na, A, n, c, X, rfl, -⟩ := h
  obtain ⟨R, hR⟩ : ∃ R, cmpI x 0 = R := ⟨_, rfl⟩
  rw [hR]
  have HR := Lib.hid hR
  clear hR
  obtain ⟨dI, hI1, hI2⟩ := row_Int
  have HI := Lib.hid (And.intro hI1 hI2)
  clear hI1 hI2
  go_enter Try.func101, Try.ntmps101
  go_upto_region 1 with fail
  have hB0 : Below w.heap.size w (w.alloc (.cells #[.bool na, .slice A n c] 26)) := ((Below.refl _ _).alloc (Nat.le_refl _) _)
  have bx0 : Box (w.alloc (.cells #[.bool na, .slice A n c] 26)) (w.heap.size) [.bool na, .slice A n c] := (Box.new (by simp))
  generalize w.alloc (.cells #[.bool na, .slice A n c] 26) = wA at hB0 bx0 ⊢
  have HA := Lib.hid (And.intro hB0 bx0)
  clear hB0 bx0
  go_upto_region 2 with (first
    | ((with_reducible show wpList _ _ _ (Oper.mk _ (.load 26 _) _ _ _ _ :: _) _ _); refine wp_ld rfl 26 _ rfl (w.heap.size) 0 rfl (HA.out.2) [.bool na, .slice A n c] (fun j v h => by rcases j with _ | _ | _ | j <;> simp at h ⊢ <;> exact h) dI HI.out.1 HI.out.2 size_Int ?_)
    | (go_at_call 103; (with_reducible refine (CT.out _ HA.out.1).mono ?_); rintro e1 w1 ⟨v1, rfl, hi, hb1⟩; have HO := Lib.hid hi; obtain ⟨ng, A1, c1, l1, rfl, -⟩ := hi; have HB1 := Lib.hid hb1; clear hb1)
    | ((with_reducible show wpList _ _ _ (Oper.mk none (.store 26 _ _) _ _ _ _ :: _) _ _); refine wp_st rfl 26 _ _ rfl (w.heap.size) 0 [_, _] rfl rfl size_Int rfl (HA.out.2.keep HB1.out) (Nat.le_refl _) rfl ?_; intro W9 c9 g9))
  obtain ⟨l2, ho, hn, hl, -, hs⟩ := HO.out.low (l := l1)
  have HS := Lib.hid (sgn_of ho.dig hn hs)
  have HB9 : Hid (Below w.heap.size w W9) := Lib.hid (put_facts (below_then HA.out.1 HB1.out) (Nat.le_refl _) g9)
  have y0 : W9.cell? ⟨w.heap.size, 0, none⟩ = some (.bool ng) := c9.2.1 0
  have y1 : W9.cell? ⟨w.heap.size, 1, none⟩ = some (.slice A1 l1.length c1) := c9.2.1 1
  obtain ⟨q, hq⟩ : ∃ q, l1.length = q := ⟨_, rfl⟩
  rw [hq] at y1 hl
  clear ho hn hs c9 g9 HO
  by_cases hq0 : q = 0
  · subst hq0
    have HE : Hid (R = 0) := Lib.hid (HR.out.symm.trans (HS.out.1 (List.length_eq_zero_iff.1 hl)))
    clear hq hl
    go_wp2_with fail
    go_ret
    exact ⟨by rw [HE.out]; rfl, HB9.out⟩
  · have hq1 : (q : Int) ≠ 0 := by omega
    have hq2 : ((q : Int) == 0) = false := by simpa using hq0
    have hne : l2 ≠ [] := fun e => hq0 (by rw [← hl, e]; rfl)
    cases ng with
    | true =>
      have HE : Hid (R = -1) := Lib.hid (HR.out.symm.trans (HS.out.2.1 hne rfl))
      clear hq hl hne hq0
      go_wp2_with fail
      go_ret
      exact ⟨by rw [HE.out]; rfl, HB9.out⟩
    | false =>
      have HE : Hid (R = 1) := Lib.hid (HR.out.symm.trans (HS.out.2.2 hne rfl))
      clear hq hl hne hq0
      go_wp2_with fail
      go_ret
      exact ⟨by rw [HE.out]; rfl, HB9.out⟩
end Go.Proofs.Ytmdfgidejdiiiaa
end
section
namespace Go.Proofs.Ytmdfgidejdiiiaa
open Go.RowKit
set_option maxRecDepth 100000 in
set_option maxHeartbeats 4000000 in
theorem r2_Neg (v : Value) (x : Int) (K b : Nat) (w : World) (h : IntB b w v x K) (h9 : K ≤ 10000000) : Calls Try.prog 109 #[v] w (RetI w (-x) K) := by
  have CT : Hid (∀ w1, Below w.heap.size w w1 → Calls Try.prog 103 #[v] w1 (RetI w1 x K)) := Lib.hid fun w1 hb => r2_Trim v x K b w1 (h.grow hb) h9
  obtain ⟨na, A, n, c, X, rfl, -⟩ := h
  obtain ⟨dI, hI1, hI2⟩ := row_Int
  have HI := Lib.hid (And.intro hI1 hI2)
  clear hI1 hI2
  go_enter Try.func109, Try.ntmps109
  go_upto_region 1 with fail
  have hB0 : Below w.heap.size w ((w.alloc (.cells #[.bool na, .slice A n c] 26)).alloc (.cells #[.bool false, .slice none 0 0] 26)) := (((Below.refl _ _).alloc (Nat.le_refl _) _).alloc (by simp; try omega) _)
  have bx0 : Box ((w.alloc (.cells #[.bool na, .slice A n c] 26)).alloc (.cells #[.bool false, .slice none 0 0] 26)) (w.heap.size) [.bool na, .slice A n c] := ((Box.new (by simp)).alloc _)
  have bx1 : Box ((w.alloc (.cells #[.bool na, .slice A n c] 26)).alloc (.cells #[.bool false, .slice none 0 0] 26)) (w.heap.size + 1) [.bool false, .slice none 0 0] := (Box.new (by simp))
  generalize (w.alloc (.cells #[.bool na, .slice A n c] 26)).alloc (.cells #[.bool false, .slice none 0 0] 26) = wA at hB0 bx0 bx1 ⊢
  have HA := Lib.hid (And.intro hB0 (And.intro bx0 bx1))
  clear hB0 bx0 bx1
  go_upto_region 2 with (first
    | ((with_reducible show wpList _ _ _ (Oper.mk _ (.load 26 _) _ _ _ _ :: _) _ _); refine wp_ld rfl 26 _ rfl (w.heap.size) 0 rfl (HA.out.2.1) [.bool na, .slice A n c] (fun j v h => by rcases j with _ | _ | _ | j <;> simp at h ⊢ <;> exact h) dI HI.out.1 HI.out.2 size_Int ?_)
    | (go_at_call 103; (with_reducible refine (CT.out _ HA.out.1).mono ?_); rintro e1 w1 ⟨v1, rfl, hi, hb1⟩; have HO := Lib.hid hi; obtain ⟨ng, A1, c1, l1, rfl, -⟩ := hi; have HB1 := Lib.hid hb1; clear hb1)
    | ((with_reducible show wpList _ _ _ (Oper.mk none (.store 26 _ _) _ _ _ _ :: _) _ _); refine wp_st rfl 26 _ _ rfl (w.heap.size) 0 [_, _] rfl rfl size_Int rfl (HA.out.2.1.keep HB1.out) (Nat.le_refl _) rfl ?_; intro W9 c9 g9))
  obtain ⟨l2, ho, hn, hl, hlK, hs⟩ := HO.out.low (l := l1)
  have hl1 := HA.out.2.2.1
  have HB9 : Hid (Below w.heap.size w W9) := Lib.hid (put_facts (below_then HA.out.1 HB1.out) (Nat.le_refl _) g9)
  have B3 : Hid (Box W9 (w.heap.size + 1) [.bool false, .slice none 0 0]) := Lib.hid ((HA.out.2.2.keep HB1.out).grown g9 (fun e => by injection e with e; omega))
  have y0 : W9.cell? ⟨w.heap.size, 0, none⟩ = some (.bool ng) := c9.2.1 0
  have y1 : W9.cell? ⟨w.heap.size, 1, none⟩ = some (.slice A1 l1.length c1) := c9.2.1 1
  have yf : W9.frozen? ⟨w.heap.size, 0, none⟩ = false := c9.2.2 0
  obtain ⟨q, hq⟩ : ∃ q, l1.length = q := ⟨_, rfl⟩
  have hc9 : Box W9 w.heap.size [.bool ng, .slice A1 q c1] := hq ▸ c9
  have C9 := Lib.hid hc9
  have ho9 : OwG wA.heap.size W9 (.slice A1 q c1) l2 := hq ▸ (ho.away g9 (by omega))
  rw [hq] at y1 hl hlK
  have HL : Hid (OwG wA.heap.size W9 (.slice A1 q c1) l2 ∧ Nrm l2 ∧ l2.length = q ∧ q ≤ K ∧ sgn ng (nv l2) = x) := Lib.hid ⟨ho9, hn, hl, hlK, hs⟩
  clear ho hn hs hc9 c9 g9 HO ho9 hlK
  by_cases hq0 : q = 0
  · subst hq0
    have hz : l2 = [] := List.length_eq_zero_iff.1 hl
    clear hq hl hl1
    have HZ := Lib.hid hz
    clear hz
    cases ng with
    | true =>
      have hb2 : Box (W9.setCell ⟨w.heap.size, 0, none⟩ (.bool false)) w.heap.size [.bool false, .slice A1 0 c1] ∧ W9.grownBy (W9.setCell ⟨w.heap.size, 0, none⟩ (.bool false)) (some w.heap.size) := box_one C9.out (by simp) rfl
      have HB2 := Lib.hid hb2
      have hl1 := HA.out.2.2.1
      have b3 : Box (W9.setCell ⟨w.heap.size, 0, none⟩ (.bool false)) (w.heap.size + 1) [.bool false, .slice none 0 0] := B3.out.grown hb2.2 (fun e => by injection e with e; omega)
      have HB3 := Lib.hid b3
      clear hb2 b3
      go_wp2_with (first
        | ((with_reducible show wpList _ _ _ (Oper.mk (some 15) (.load 26 _) _ _ _ _ :: _) _ _); refine wp_ld rfl 26 _ rfl (w.heap.size) 0 rfl (HB2.out.1) [.bool false, .slice A1 0 c1] (fun j v h => by rcases j with _ | _ | _ | j <;> simp at h ⊢ <;> exact h) dI HI.out.1 HI.out.2 size_Int ?_)
        | ((with_reducible show wpList _ _ _ (Oper.mk none (.store 26 _ _) _ _ _ _ :: _) _ _); refine wp_st rfl 26 _ _ rfl (w.heap.size + 1) 0 [_, _] rfl rfl size_Int rfl (HB3.out) (Nat.le_refl _) rfl ?_; intro W8 c8 g8))
      have hW0 := put_facts (g := w.heap.size) HB9.out (Nat.le_refl _) HB2.out.2
      have hW := put_facts (g := w.heap.size + 1) hW0 (by omega) g8
      have ho2 := ((HL.out.1.away HB2.out.2 (by omega)).away g8 (by omega)).base (base' := w.heap.size) HA.out.1.size
      refine bodyPost_ret (resC rfl _ _ W8 (g := w.heap.size + 1) rfl (res_box 26 c8 dI HI.out.1 HI.out.2 size_Int)) rfl ?_
      have hlen := HL.out.2.2.1
      refine ⟨_, rfl, ⟨false, A1, c1, l2, by rw [hlen]; rfl, by rw [hlen]; exact ho2, HL.out.2.1, by rw [hlen]; exact HL.out.2.2.2.1, ?_⟩, hW⟩
      have h := HL.out.2.2.2.2
      rw [HZ.out] at h ⊢
      rw [← h]; rfl
    | false =>
      have hb2 : Box (W9.setCell ⟨w.heap.size, 0, none⟩ (.bool false)) w.heap.size [.bool false, .slice A1 0 c1] ∧ W9.grownBy (W9.setCell ⟨w.heap.size, 0, none⟩ (.bool false)) (some w.heap.size) := box_one C9.out (by simp) rfl
      have HB2 := Lib.hid hb2
      have hl1 := HA.out.2.2.1
      have b3 : Box (W9.setCell ⟨w.heap.size, 0, none⟩ (.bool false)) (w.heap.size + 1) [.bool false, .slice none 0 0] := B3.out.grown hb2.2 (fun e => by injection e with e; omega)
      have HB3 := Lib.hid b3
      clear hb2 b3
      go_wp2_with (first
        | ((with_reducible show wpList _ _ _ (Oper.mk (some 15) (.load 26 _) _ _ _ _ :: _) _ _); refine wp_ld rfl 26 _ rfl (w.heap.size) 0 rfl (HB2.out.1) [.bool false, .slice A1 0 c1] (fun j v h => by rcases j with _ | _ | _ | j <;> simp at h ⊢ <;> exact h) dI HI.out.1 HI.out.2 size_Int ?_)
        | ((with_reducible show wpList _ _ _ (Oper.mk none (.store 26 _ _) _ _ _ _ :: _) _ _); refine wp_st rfl 26 _ _ rfl (w.heap.size + 1) 0 [_, _] rfl rfl size_Int rfl (HB3.out) (Nat.le_refl _) rfl ?_; intro W8 c8 g8))
      have hW0 := put_facts (g := w.heap.size) HB9.out (Nat.le_refl _) HB2.out.2
      have hW := put_facts (g := w.heap.size + 1) hW0 (by omega) g8
      have ho2 := ((HL.out.1.away HB2.out.2 (by omega)).away g8 (by omega)).base (base' := w.heap.size) HA.out.1.size
      refine bodyPost_ret (resC rfl _ _ W8 (g := w.heap.size + 1) rfl (res_box 26 c8 dI HI.out.1 HI.out.2 size_Int)) rfl ?_
      have hlen := HL.out.2.2.1
      refine ⟨_, rfl, ⟨false, A1, c1, l2, by rw [hlen]; rfl, by rw [hlen]; exact ho2, HL.out.2.1, by rw [hlen]; exact HL.out.2.2.2.1, ?_⟩, hW⟩
      have h := HL.out.2.2.2.2
      rw [HZ.out] at h ⊢
      rw [← h]; rfl
  · have hq1 : (0 : Int) < (q : Int) := by omega
    have hq2 : 0 < q := by omega
    clear hq hl hq0 hl1
    cases ng with
    | true =>
      have hb2 : Box (W9.setCell ⟨w.heap.size, 0, none⟩ (.bool false)) w.heap.size [.bool false, .slice A1 q c1] ∧ W9.grownBy (W9.setCell ⟨w.heap.size, 0, none⟩ (.bool false)) (some w.heap.size) := box_one C9.out (by simp) rfl
      have HB2 := Lib.hid hb2
      have hl1 := HA.out.2.2.1
      have b3 : Box (W9.setCell ⟨w.heap.size, 0, none⟩ (.bool false)) (w.heap.size + 1) [.bool false, .slice none 0 0] := B3.out.grown hb2.2 (fun e => by injection e with e; omega)
      have HB3 := Lib.hid b3
      clear hb2 b3
      go_wp2_with (first
        | ((with_reducible show wpList _ _ _ (Oper.mk (some 15) (.load 26 _) _ _ _ _ :: _) _ _); refine wp_ld rfl 26 _ rfl (w.heap.size) 0 rfl (HB2.out.1) [.bool false, .slice A1 q c1] (fun j v h => by rcases j with _ | _ | _ | j <;> simp at h ⊢ <;> exact h) dI HI.out.1 HI.out.2 size_Int ?_)
        | ((with_reducible show wpList _ _ _ (Oper.mk none (.store 26 _ _) _ _ _ _ :: _) _ _); refine wp_st rfl 26 _ _ rfl (w.heap.size + 1) 0 [_, _] rfl rfl size_Int rfl (HB3.out) (Nat.le_refl _) rfl ?_; intro W8 c8 g8))
      have hW0 := put_facts (g := w.heap.size) HB9.out (Nat.le_refl _) HB2.out.2
      have hW := put_facts (g := w.heap.size + 1) hW0 (by omega) g8
      have ho2 := ((HL.out.1.away HB2.out.2 (by omega)).away g8 (by omega)).base (base' := w.heap.size) HA.out.1.size
      refine bodyPost_ret (resC rfl _ _ W8 (g := w.heap.size + 1) rfl (res_box 26 c8 dI HI.out.1 HI.out.2 size_Int)) rfl ?_
      have hlen := HL.out.2.2.1
      refine ⟨_, rfl, ⟨false, A1, c1, l2, by rw [hlen]; rfl, by rw [hlen]; exact ho2, HL.out.2.1, by rw [hlen]; exact HL.out.2.2.2.1, ?_⟩, hW⟩
      have h := HL.out.2.2.2.2
      rw [← h]; exact (Int.neg_neg _).symm
    | false =>
      have hb2 : Box (W9.setCell ⟨w.heap.size, 0, none⟩ (.bool true)) w.heap.size [.bool true, .slice A1 q c1] ∧ W9.grownBy (W9.setCell ⟨w.heap.size, 0, none⟩ (.bool true)) (some w.heap.size) := box_one C9.out (by simp) rfl
      have HB2 := Lib.hid hb2
      have hl1 := HA.out.2.2.1
      have b3 : Box (W9.setCell ⟨w.heap.size, 0, none⟩ (.bool true)) (w.heap.size + 1) [.bool false, .slice none 0 0] := B3.out.grown hb2.2 (fun e => by injection e with e; omega)
      have HB3 := Lib.hid b3
      clear hb2 b3
      go_wp2_with (first
        | ((with_reducible show wpList _ _ _ (Oper.mk (some 15) (.load 26 _) _ _ _ _ :: _) _ _); refine wp_ld rfl 26 _ rfl (w.heap.size) 0 rfl (HB2.out.1) [.bool true, .slice A1 q c1] (fun j v h => by rcases j with _ | _ | _ | j <;> simp at h ⊢ <;> exact h) dI HI.out.1 HI.out.2 size_Int ?_)
        | ((with_reducible show wpList _ _ _ (Oper.mk none (.store 26 _ _) _ _ _ _ :: _) _ _); refine wp_st rfl 26 _ _ rfl (w.heap.size + 1) 0 [_, _] rfl rfl size_Int rfl (HB3.out) (Nat.le_refl _) rfl ?_; intro W8 c8 g8))
      have hW0 := put_facts (g := w.heap.size) HB9.out (Nat.le_refl _) HB2.out.2
      have hW := put_facts (g := w.heap.size + 1) hW0 (by omega) g8
      have ho2 := ((HL.out.1.away HB2.out.2 (by omega)).away g8 (by omega)).base (base' := w.heap.size) HA.out.1.size
      refine bodyPost_ret (resC rfl _ _ W8 (g := w.heap.size + 1) rfl (res_box 26 c8 dI HI.out.1 HI.out.2 size_Int)) rfl ?_
      have hlen := HL.out.2.2.1
      refine ⟨_, rfl, ⟨true, A1, c1, l2, by rw [hlen]; rfl, by rw [hlen]; exact ho2, HL.out.2.1, by rw [hlen]; exact HL.out.2.2.2.1, ?_⟩, hW⟩
      have h := HL.out.2.2.2.2
      rw [← h]; rfl
end Go.Proofs.Ytmdfgidejdiiiaa
end
