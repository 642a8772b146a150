/- Reference of integers: Gcd, Div. Printed by gen_iq.py. -/
import Derived.Test.YtmdfgidejdiiiaalIptoIj
import Derived.Test.YtmdfgidejdiiiaalIltoJ8
set_option linter.unusedVariables false
set_option linter.unusedSimpArgs false
namespace Go.Proofs.Ytmdfgidejdiiiaa
open Go.RowKit
theorem nrm_one : Nrm [1] := fun k x hk hx => by
  have : k = 0 := by simpa using hk
  subst this
  simp at hx
  omega
def RetGI (w : World) (x y : Int) (K : Nat) (e : Ending) (w' : World) : Prop := ∃ v g, e = .returned v ∧ IntO w.heap.size w' v g K ∧ (0 ≤ g ∧ g ∣ x ∧ g ∣ y) ∧ Below w.heap.size w w'
theorem sgn_dvd {g x : Int} {b : Bool} (h : g ∣ x) : g ∣ sgn b x := by
  cases b with
  | false => exact h
  | true => exact Int.dvd_neg.2 h
set_option maxRecDepth 100000 in
set_option maxHeartbeats 4000000 in
theorem r2_Gcd (v u : Value) (x y : Int) (K M b b' : Nat) (w : World) (h : IntB b w v x K) (h' : IntB b' w u y M) (h9 : K ≤ 1000000) (h8 : M ≤ 1000000) : Calls Try.prog 107 #[v, u] w (RetGI w x y (max K M)) := by
  obtain ⟨na, A, n, c, X, rfl, hX, hn, hc, hnK, rfl⟩ := h
  obtain ⟨nb, B, m, d, Y, rfl, hY, hm, hd, hmM, rfl⟩ := h'
  have CG : Hid (∀ w1, Below w.heap.size w w1 → Calls Try.prog 126 #[.slice A n c, .slice B m d] w1 (RetG w1 (nv X) (nv Y) (max n m))) := Lib.hid fun w1 hb => r1_Gcd A B n m c d X Y w1 (hX.1.grow hb) (hY.1.grow hb) hn hm hc hd (by omega) (by omega)
  have HK : Hid (max n m ≤ max K M) := Lib.hid (by omega)
  clear hX hY hn hm hc hd hnK hmM
  obtain ⟨dI, hI1, hI2⟩ := row_Int
  have HI := Lib.hid (And.intro hI1 hI2)
  clear hI1 hI2
  go_enter Try.func107, Try.ntmps107
  go_upto_region 1 with fail
  have hB0 : Below w.heap.size w (((w.alloc (.cells #[.bool na, .slice A n c] 26)).alloc (.cells #[.bool nb, .slice B m d] 26)).alloc (.cells #[.bool false, .slice none 0 0] 26)) := ((((Below.refl _ _).alloc (Nat.le_refl _) _).alloc (by simp; try omega) _).alloc (by simp; try omega) _)
  have bx0 : Box (((w.alloc (.cells #[.bool na, .slice A n c] 26)).alloc (.cells #[.bool nb, .slice B m d] 26)).alloc (.cells #[.bool false, .slice none 0 0] 26)) (w.heap.size) [.bool na, .slice A n c] := (((Box.new (by simp)).alloc _).alloc _)
  have bx1 : Box (((w.alloc (.cells #[.bool na, .slice A n c] 26)).alloc (.cells #[.bool nb, .slice B m d] 26)).alloc (.cells #[.bool false, .slice none 0 0] 26)) (w.heap.size + 1) [.bool nb, .slice B m d] := ((Box.new (by simp)).alloc _)
  have bx2 : Box (((w.alloc (.cells #[.bool na, .slice A n c] 26)).alloc (.cells #[.bool nb, .slice B m d] 26)).alloc (.cells #[.bool false, .slice none 0 0] 26)) (w.heap.size + 1 + 1) [.bool false, .slice none 0 0] := (Box.new (by simp))
  generalize ((w.alloc (.cells #[.bool na, .slice A n c] 26)).alloc (.cells #[.bool nb, .slice B m d] 26)).alloc (.cells #[.bool false, .slice none 0 0] 26) = wA at hB0 bx0 bx1 bx2 ⊢
  have HA := Lib.hid (And.intro hB0 (And.intro bx0 (And.intro bx1 bx2)))
  clear hB0 bx0 bx1 bx2
  have z2 : wA.cell? ⟨w.heap.size, 1, none⟩ = some (.slice A n c) := HA.out.2.1.2.1 1
  have z4 : wA.cell? ⟨w.heap.size + 1, 1, none⟩ = some (.slice B m d) := HA.out.2.2.1.2.1 1
  go_wp2_with (first
    | (go_at_call 126; (with_reducible refine (CG.out _ HA.out.1).mono ?_); rintro e1 w1 ⟨v1, l1, rfl, o1, ⟨g1, g2⟩, n1, k1, hb1⟩; obtain ⟨A1, c1, rfl, -, -⟩ := o1.form; have HB1 := Lib.hid hb1; have H1 := Lib.hid (And.intro o1 (And.intro g1 (And.intro g2 (And.intro n1 k1)))); clear o1 g1 g2 n1 k1 hb1)
    | ((with_reducible show wpList _ _ _ (Oper.mk none (.store 26 _ _) _ _ _ _ :: _) _ _); refine wp_st rfl 26 _ _ rfl (w.heap.size + 1 + 1) 0 [_, _] rfl rfl size_Int rfl (HA.out.2.2.2.keep HB1.out) (Nat.le_refl _) rfl ?_; intro W9 c9 g9))
  have hW := put_facts (g := w.heap.size + 1 + 1) (below_then HA.out.1 HB1.out) (by omega) g9
  have ho := (H1.out.1.away g9 HA.out.2.2.2.1).base (base' := w.heap.size) HA.out.1.size
  refine bodyPost_ret (resC rfl _ _ W9 (g := w.heap.size + 1 + 1) rfl (res_box 26 c9 dI HI.out.1 HI.out.2 size_Int)) rfl ?_
  exact ⟨_, nv l1, rfl, ⟨false, A1, c1, l1, rfl, ho, H1.out.2.2.2.1, Nat.le_trans H1.out.2.2.2.2 HK.out, rfl⟩, ⟨nv_low ho.dig, sgn_dvd H1.out.2.1, sgn_dvd H1.out.2.2.1⟩, hW⟩
set_option maxRecDepth 100000 in
set_option maxHeartbeats 4000000 in
theorem r2_Div (v u : Value) (x y : Int) (K M b b' : Nat) (w : World) (h : IntB b w v x K) (h' : IntB b' w u y M) (hK : 1 ≤ K) (h9 : K ≤ 1000000) (h8 : M ≤ 1000000) (hy : 0 < y) : Calls Try.prog 108 #[v, u] w (RetD w (x / y) (x % y) (K + 1) M) := by
  have CX : Hid (∀ w1, Below w.heap.size w w1 → Calls Try.prog 103 #[v] w1 (RetI w1 x K)) := Lib.hid fun w1 hb => r2_Trim v x K b w1 (h.grow hb) (by omega)
  have CY : Hid (∀ w1, Below w.heap.size w w1 → Calls Try.prog 103 #[u] w1 (RetI w1 y M)) := Lib.hid fun w1 hb => r2_Trim u y M b' w1 (h'.grow hb) (by omega)
  obtain ⟨na, A, n, c, X, rfl, -⟩ := h
  obtain ⟨nb, B, m, d, Y, rfl, -⟩ := h'
  obtain ⟨dI, hI1, hI2⟩ := row_Int
  have HI := Lib.hid (And.intro hI1 hI2)
  clear hI1 hI2
  go_enter Try.func108, Try.ntmps108
  go_upto_region 1 with fail
  have hB0 : Below w.heap.size w ((((w.alloc (.cells #[.bool na, .slice A n c] 26)).alloc (.cells #[.bool nb, .slice B m d] 26)).alloc (.cells #[.bool false, .slice none 0 0] 26)).alloc (.cells #[.bool false, .slice none 0 0] 26)) := (((((Below.refl _ _).alloc (Nat.le_refl _) _).alloc (by simp; try omega) _).alloc (by simp; try omega) _).alloc (by simp; try omega) _)
  have bx0 : Box ((((w.alloc (.cells #[.bool na, .slice A n c] 26)).alloc (.cells #[.bool nb, .slice B m d] 26)).alloc (.cells #[.bool false, .slice none 0 0] 26)).alloc (.cells #[.bool false, .slice none 0 0] 26)) (w.heap.size) [.bool na, .slice A n c] := ((((Box.new (by simp)).alloc _).alloc _).alloc _)
  have bx1 : Box ((((w.alloc (.cells #[.bool na, .slice A n c] 26)).alloc (.cells #[.bool nb, .slice B m d] 26)).alloc (.cells #[.bool false, .slice none 0 0] 26)).alloc (.cells #[.bool false, .slice none 0 0] 26)) (w.heap.size + 1) [.bool nb, .slice B m d] := (((Box.new (by simp)).alloc _).alloc _)
  have bx2 : Box ((((w.alloc (.cells #[.bool na, .slice A n c] 26)).alloc (.cells #[.bool nb, .slice B m d] 26)).alloc (.cells #[.bool false, .slice none 0 0] 26)).alloc (.cells #[.bool false, .slice none 0 0] 26)) (w.heap.size + 1 + 1) [.bool false, .slice none 0 0] := ((Box.new (by simp)).alloc _)
  have bx3 : Box ((((w.alloc (.cells #[.bool na, .slice A n c] 26)).alloc (.cells #[.bool nb, .slice B m d] 26)).alloc (.cells #[.bool false, .slice none 0 0] 26)).alloc (.cells #[.bool false, .slice none 0 0] 26)) (w.heap.size + 1 + 1 + 1) [.bool false, .slice none 0 0] := (Box.new (by simp))
  generalize (((w.alloc (.cells #[.bool na, .slice A n c] 26)).alloc (.cells #[.bool nb, .slice B m d] 26)).alloc (.cells #[.bool false, .slice none 0 0] 26)).alloc (.cells #[.bool false, .slice none 0 0] 26) = wA at hB0 bx0 bx1 bx2 bx3 ⊢
  have HA := Lib.hid (And.intro hB0 (And.intro bx0 (And.intro bx1 (And.intro bx2 bx3))))
  clear hB0 bx0 bx1 bx2 bx3
  refine wp_region_grow7 (fun i => Nat.blt i 4) (fun _ => false) (fun w9 => Below wA.heap.size wA w9) (gT [.v (.agg #[.bool na, .slice A n c]), .int x K, .v (.agg #[.bool nb, .slice B m d]), .int y M]) (fun a b => Below a.heap.size a b) (dT wA.heap.size [.v (.agg #[.bool na, .slice A n c]), .int x K, .v (.agg #[.bool nb, .slice B m d]), .int y M]) (by kernel_rfl) (by kernel_rfl) (Below.refl _ _).drew (fun j x a b h1 h2 => ⟨below_then h1 h2.1, fun i _ v => dT_keep h2.1 i v, Below.refl _ _, fun w0 h => below_then h h2.1⟩) (fun j v w h => by cases h) ?_ (fun j o _ _ h => by cases h) ?_
  · refine ⟨?_, ?_, ?_, ?_, trivial⟩
    all_goals
      intro vs w9 hp hF
      have HP := Lib.hid hp
      clear hp
      simp [depsB, Region.binds, dT] at hF
      simp [stL, depsB, Region.binds, Act.put, hF]
    · (obtain ⟨dI, hI1, hI2⟩ := row_Int; refine wp_ld rfl 26 _ rfl (w.heap.size) 0 rfl (HA.out.2.1.keep HP.out) [.bool na, .slice A n c] (fun j v h => by rcases j with _ | _ | _ | _ | j <;> simp at h ⊢ <;> exact h) dI hI1 hI2 size_Int ?_; go_wp2_with fail; exact ⟨rfl, Below.refl _ _, nbx rfl⟩)
    · go_wp2_with (go_at_call 103; (with_reducible refine (CX.out _ (below_then HA.out.1 HP.out)).mono ?_); rintro e1 w1' ⟨v1, rfl, o1, hb1⟩)
      exact ⟨IntO.base o1 HP.out.size, hb1, nbx rfl⟩
    · (obtain ⟨dI, hI1, hI2⟩ := row_Int; refine wp_ld rfl 26 _ rfl (w.heap.size + 1) 0 rfl (HA.out.2.2.1.keep HP.out) [.bool nb, .slice B m d] (fun j v h => by rcases j with _ | _ | _ | _ | j <;> simp at h ⊢ <;> exact h) dI hI1 hI2 size_Int ?_; go_wp2_with fail; exact ⟨rfl, Below.refl _ _, nbx rfl⟩)
    · go_wp2_with (go_at_call 103; (with_reducible refine (CY.out _ (below_then HA.out.1 HP.out)).mono ?_); rintro e1 w1' ⟨v1, rfl, o1, hb1⟩)
      exact ⟨IntO.base o1 HP.out.size, hb1, nbx rfl⟩
  intro vs w9 hp hF hpr
  have ex : IntO wA.heap.size w9 (vs 1) x K := hF 1 (by decide) rfl
  have ey : IntO wA.heap.size w9 (vs 3) y M := hF 3 (by decide) rfl
  obtain ⟨ga, A1, c1, l1, e1, -⟩ := ex
  obtain ⟨gb, A2, c2, l2, e3, -⟩ := ey
  have ex : IntO wA.heap.size w9 (.agg #[.bool ga, .slice A1 l1.length c1]) x K := e1 ▸ (hF 1 (by decide) rfl : IntO wA.heap.size w9 (vs 1) x K)
  have ey : IntO wA.heap.size w9 (.agg #[.bool gb, .slice A2 l2.length c2]) y M := e3 ▸ (hF 3 (by decide) rfl : IntO wA.heap.size w9 (vs 3) y M)
  obtain ⟨n1, hn1⟩ : ∃ n, l1.length = n := ⟨_, rfl⟩
  obtain ⟨n2, hn2⟩ : ∃ n, l2.length = n := ⟨_, rfl⟩
  rw [hn1] at ex e1
  rw [hn2] at ey e3
  obtain ⟨L1, o1, r1, q1, k1, s1⟩ := ex.low (l := l1)
  obtain ⟨L2, o2, r2, q2, k2, s2⟩ := ey.low (l := l2)
  obtain rfl : gb = false := by
    cases gb with
    | false => rfl
    | true => exfalso; have := nv_low o2.dig; simp [sgn] at s2; omega
  have s2' : nv L2 = y := s2
  clear hF hpr ex ey hn1 hn2 s2
  show wpList Try.prog _ _ [_, _] _ _
  simp [stL, Act.put, e1, e3]
  have hl0 := HA.out.2.1.1
  have hl1 := HA.out.2.2.1.1
  refine wp_st rfl 26 _ _ rfl (w.heap.size) 0 [.bool ga, .slice A1 n1 c1] rfl rfl size_Int rfl (HA.out.2.1.keep hp) (Nat.le_refl _) rfl ?_
  intro W1 c1' g1
  have b1 := (HA.out.2.2.1.keep hp).grown g1 (fun e => by injection e with e; omega)
  have b2 := (HA.out.2.2.2.1.keep hp).grown g1 (fun e => by injection e with e; omega)
  have b3 := (HA.out.2.2.2.2.keep hp).grown g1 (fun e => by injection e with e; omega)
  simp only [Act.put]
  refine wp_st rfl 26 _ _ rfl (w.heap.size + 1) 0 [.bool false, .slice A2 n2 c2] rfl rfl size_Int rfl b1 (Nat.le_refl _) rfl ?_
  intro WB c2' g2
  have HC : Hid (Below w.heap.size w WB ∧ Box WB w.heap.size [.bool ga, .slice A1 n1 c1] ∧ Box WB (w.heap.size + 1) [.bool false, .slice A2 n2 c2] ∧ Box WB (w.heap.size + 1 + 1) [.bool false, .slice none 0 0] ∧ Box WB (w.heap.size + 1 + 1 + 1) [.bool false, .slice none 0 0]) := Lib.hid ⟨put_facts (g := w.heap.size + 1) (put_facts (g := w.heap.size) (below_then HA.out.1 hp) (Nat.le_refl _) g1) (by omega) g2, c1'.grown g2 (fun e => by injection e with e; omega), c2', b2.grown g2 (fun e => by injection e with e; omega), b3.grown g2 (fun e => by injection e with e; omega)⟩
  have HL1 : Hid (OwG w.heap.size WB (.slice A1 n1 c1) L1 ∧ L1.length = n1 ∧ n1 ≤ K ∧ sgn ga (nv L1) = x) := Lib.hid ⟨((o1.away g1 hl0).away g2 hl1).base HA.out.1.size, q1, k1, s1⟩
  have HL2 : Hid (OwG w.heap.size WB (.slice A2 n2 c2) L2 ∧ L2.length = n2 ∧ n2 ≤ M ∧ nv L2 = y) := Lib.hid ⟨((o2.away g1 hl0).away g2 hl1).base HA.out.1.size, q2, k2, s2'⟩
  clear o1 r1 q1 k1 s1 o2 r2 q2 k2 s2' e1 e3 hl0 hl1 b1 b2 b3 c1' c2' g1 g2 hp CX CY HA
  have y1 : WB.cell? ⟨w.heap.size, 0, none⟩ = some (.bool ga) := HC.out.2.1.2.1 0
  have y2 : WB.cell? ⟨w.heap.size, 1, none⟩ = some (.slice A1 n1 c1) := HC.out.2.1.2.1 1
  have y4 : WB.cell? ⟨w.heap.size + 1, 1, none⟩ = some (.slice A2 n2 c2) := HC.out.2.2.1.2.1 1
  have dl1 := HL1.out.1.len
  have dl2 := HL2.out.1.len
  have hk1 := HL1.out.2.2.1
  have hk2 := HL2.out.2.2.1
  have CDV : Hid (Calls Try.prog 127 #[.slice A1 n1 c1, .slice A2 n2 c2] WB (RetQRE WB (nv L1 / y) (nv L1 % y) n1 n2)) := Lib.hid (HL2.out.2.2.2 ▸ r1_DivMod A1 A2 n1 n2 c1 c2 L1 L2 WB HL1.out.1.digA HL2.out.1.digA dl1.1 dl2.1 dl1.2 dl2.2 (by omega) (by omega) (by rw [HL2.out.2.2.2]; omega))
  clear dl1 dl2
  go_wp2_with fail
  go_upto_region 5 with (go_at_call 127; (with_reducible refine CDV.out.mono ?_); rintro e3 WC ⟨v3, lq, v4, lr, rfl, ⟨oq, nq, mq, kq⟩, ⟨or, nr, mr, kr⟩, hb3⟩; obtain ⟨A3, c3, rfl, -, -⟩ := oq.form; obtain ⟨A4, c4, rfl, -, -⟩ := or.form; have HB3 := Lib.hid hb3; have HQ0 := Lib.hid (And.intro oq (And.intro nq (And.intro mq kq))); have HR0 := Lib.hid (And.intro or (And.intro nr (And.intro mr kr))); clear oq nq mq kq or nr mr kr hb3)
  have HC2 : Hid (Below w.heap.size w WC ∧ Box WC w.heap.size [.bool ga, .slice A1 n1 c1] ∧ Box WC (w.heap.size + 1) [.bool false, .slice A2 n2 c2] ∧ Box WC (w.heap.size + 1 + 1) [.bool false, .slice none 0 0] ∧ Box WC (w.heap.size + 1 + 1 + 1) [.bool false, .slice none 0 0]) := Lib.hid ⟨below_then HC.out.1 HB3.out, HC.out.2.1.keep HB3.out, HC.out.2.2.1.keep HB3.out, HC.out.2.2.2.1.keep HB3.out, HC.out.2.2.2.2.keep HB3.out⟩
  have RBS : Hid (w.heap.size ≤ WB.heap.size) := Lib.hid HC.out.1.size
  have HLT : Hid (w.heap.size + 1 + 1 + 1 < WB.heap.size) := Lib.hid HC.out.2.2.2.2.1
  clear y1 y2 y4 CDV
  have y1 : WC.cell? ⟨w.heap.size, 0, none⟩ = some (.bool ga) := HC2.out.2.1.2.1 0
  have y3 : WC.cell? ⟨w.heap.size + 1, 0, none⟩ = some (.bool false) := HC2.out.2.2.1.2.1 0
  cases ga with
  | false =>
    have QH : Hid (OwG WB.heap.size WC (.slice A3 lq.length c3) lq ∧ lq.length ≤ K + 1 ∧ sgn false (nv lq) = x / y) := Lib.hid ⟨HQ0.out.1, by have := HQ0.out.2.2.2; omega, by rw [← HL1.out.2.2.2]; exact HQ0.out.2.1⟩
    have RH : Hid (OwG WB.heap.size WC (.slice A4 lr.length c4) lr ∧ Nrm lr ∧ lr.length ≤ M ∧ nv lr = x % y) := Lib.hid ⟨HR0.out.1, HR0.out.2.2.1, Nat.le_trans HR0.out.2.2.2 hk2, by rw [← HL1.out.2.2.2]; exact HR0.out.2.1⟩
    clear hk1 hk2
    go_upto_region 7 with fail
    have CQT : Hid (Calls Try.prog 103 #[.agg #[.bool false, .slice A3 lq.length c3]] WC (RetI WC (x / y) (K + 1))) := Lib.hid (by
      have h := r2_Trim _ _ (K + 1) WC.heap.size WC (IntB.mk (ng := false) ⟨QH.out.1.digB (b' := WC.heap.size), rfl, QH.out.1.len.2, QH.out.2.1⟩) (by omega)
      rw [show sgn false (nv lq) = x / y from QH.out.2.2] at h
      exact h)
    go_wp2_with (first
      | (go_at_call 103; (with_reducible refine CQT.out.mono ?_); rintro e8 w8 ⟨v8, rfl, hi, hb8⟩; have HQ := Lib.hid hi; obtain ⟨g8, A8, c8, l8, rfl, -⟩ := hi; have HB8 := Lib.hid hb8; clear hb8)
      | ((with_reducible show wpList _ _ _ (Oper.mk none (.store 26 (.tmp 4) _) _ _ _ _ :: _) _ _); refine wp_st rfl 26 _ _ rfl (w.heap.size + 1 + 1) 0 [_, _] rfl rfl size_Int rfl (HC2.out.2.2.2.1.keep HB8.out) (Nat.le_refl _) rfl ?_; intro W1x cA gA)
      | ((with_reducible show wpList _ _ _ (Oper.mk none (.store 26 (.tmp 5) _) _ _ _ _ :: _) _ _); refine wp_st rfl 26 _ _ rfl (w.heap.size + 1 + 1 + 1) 0 [_, _] rfl rfl size_Int rfl ((HC2.out.2.2.2.2.keep HB8.out).grown gA (fun e => by injection e with e; omega)) (Nat.le_refl _) rfl ?_; intro W2x cB gB))
    have hb := below_then HC2.out.1 HB8.out
    have hW := put_facts (g := w.heap.size + 1 + 1 + 1) (put_facts (g := w.heap.size + 1 + 1) hb (by omega) gA) (by omega) gB
    have hl1 := HC2.out.2.2.2.1.1
    have hl2 := HC2.out.2.2.2.2.1
    have hl3 := HLT.out
    have hq := ((HQ.out.away gA (by omega)).away gB (by omega)).base (b' := w.heap.size) HC2.out.1.size
    have hr := (((RH.out.1.grow HB8.out).away gA (by omega)).away gB (by omega)).base (base' := w.heap.size) RBS.out
    have cA' := cA.grown gB (fun e => by injection e with e; omega)
    refine bodyPost_ret (resCCT rfl _ _ W2x (g := w.heap.size + 1 + 1) (g' := w.heap.size + 1 + 1 + 1) rfl rfl (res_box 26 cA' dI HI.out.1 HI.out.2 size_Int) (res_box 26 cB dI HI.out.1 HI.out.2 size_Int)) rfl ?_
    exact ⟨_, rfl, ⟨_, _, rfl, hq, ⟨false, A4, c4, lr, rfl, hr, RH.out.2.1, RH.out.2.2.1, RH.out.2.2.2⟩⟩, hW⟩
  | true =>
    by_cases hz : lr = []
    · subst hz
      have QH : Hid (OwG WB.heap.size WC (.slice A3 lq.length c3) lq ∧ lq.length ≤ K + 1 ∧ sgn true (nv lq) = x / y) := Lib.hid ⟨HQ0.out.1, by have := HQ0.out.2.2.2; omega, by rw [← HL1.out.2.2.2, show sgn true (nv lq) = -nv lq from rfl, HQ0.out.2.1]; exact (div_neg0 hy HR0.out.2.1.symm).1⟩
      have RH : Hid (OwG WB.heap.size WC (.slice A4 ([] : List Int).length c4) ([] : List Int) ∧ Nrm ([] : List Int) ∧ ([] : List Int).length ≤ M ∧ nv ([] : List Int) = x % y) := Lib.hid ⟨HR0.out.1, HR0.out.2.2.1, Nat.le_trans HR0.out.2.2.2 hk2, by rw [← HL1.out.2.2.2]; exact (div_neg0 hy HR0.out.2.1.symm).2⟩
      clear hk1 hk2
      go_upto_region 7 with fail
      have CQT : Hid (Calls Try.prog 103 #[.agg #[.bool true, .slice A3 lq.length c3]] WC (RetI WC (x / y) (K + 1))) := Lib.hid (by
        have h := r2_Trim _ _ (K + 1) WC.heap.size WC (IntB.mk (ng := true) ⟨QH.out.1.digB (b' := WC.heap.size), rfl, QH.out.1.len.2, QH.out.2.1⟩) (by omega)
        rw [show sgn true (nv lq) = x / y from QH.out.2.2] at h
        exact h)
      go_wp2_with (first
        | (go_at_call 103; (with_reducible refine CQT.out.mono ?_); rintro e8 w8 ⟨v8, rfl, hi, hb8⟩; have HQ := Lib.hid hi; obtain ⟨g8, A8, c8, l8, rfl, -⟩ := hi; have HB8 := Lib.hid hb8; clear hb8)
        | ((with_reducible show wpList _ _ _ (Oper.mk none (.store 26 (.tmp 4) _) _ _ _ _ :: _) _ _); refine wp_st rfl 26 _ _ rfl (w.heap.size + 1 + 1) 0 [_, _] rfl rfl size_Int rfl (HC2.out.2.2.2.1.keep HB8.out) (Nat.le_refl _) rfl ?_; intro W1x cA gA)
        | ((with_reducible show wpList _ _ _ (Oper.mk none (.store 26 (.tmp 5) _) _ _ _ _ :: _) _ _); refine wp_st rfl 26 _ _ rfl (w.heap.size + 1 + 1 + 1) 0 [_, _] rfl rfl size_Int rfl ((HC2.out.2.2.2.2.keep HB8.out).grown gA (fun e => by injection e with e; omega)) (Nat.le_refl _) rfl ?_; intro W2x cB gB))
      have hb := below_then HC2.out.1 HB8.out
      have hW := put_facts (g := w.heap.size + 1 + 1 + 1) (put_facts (g := w.heap.size + 1 + 1) hb (by omega) gA) (by omega) gB
      have hl1 := HC2.out.2.2.2.1.1
      have hl2 := HC2.out.2.2.2.2.1
      have hl3 := HLT.out
      have hq := ((HQ.out.away gA (by omega)).away gB (by omega)).base (b' := w.heap.size) HC2.out.1.size
      have hr := (((RH.out.1.grow HB8.out).away gA (by omega)).away gB (by omega)).base (base' := w.heap.size) RBS.out
      have cA' := cA.grown gB (fun e => by injection e with e; omega)
      refine bodyPost_ret (resCCT rfl _ _ W2x (g := w.heap.size + 1 + 1) (g' := w.heap.size + 1 + 1 + 1) rfl rfl (res_box 26 cA' dI HI.out.1 HI.out.2 size_Int) (res_box 26 cB dI HI.out.1 HI.out.2 size_Int)) rfl ?_
      exact ⟨_, rfl, ⟨_, _, rfl, hq, ⟨false, A4, c4, ([] : List Int), rfl, hr, RH.out.2.1, RH.out.2.2.1, RH.out.2.2.2⟩⟩, hW⟩
    · have hlz : lr.length ≠ 0 := fun e => hz (List.length_eq_zero_iff.1 e)
      have hlz' : (0 : Int) < (lr.length : Int) := by omega
      have hnz : Hid (nv L1 % y ≠ 0) := Lib.hid fun e => hz ((nrm_zero HR0.out.1.dig HR0.out.2.2.1).1 (HR0.out.2.1.trans e))
      clear hz
      have CAD : Hid (∀ w1 A' c' (l' : List Int), Below WC.heap.size WC w1 → OwG WC.heap.size w1 (.slice A' l'.length c') l' → nv l' = 1 → l'.length ≤ 1 → Calls Try.prog 110 #[.slice A3 lq.length c3, .slice A' l'.length c'] w1 (RetN w1 (nv L1 / y + 1) (K + 1))) := Lib.hid fun w1 A' c' l' hb ho hv hl => by
        have hk := HQ0.out.2.2.2
        have h := r1_Add A3 A' lq.length l'.length c3 c' lq l' w1 (HQ0.out.1.digA.grow hb) ho.digA rfl rfl HQ0.out.1.len.2 ho.len.2 (by omega) (by omega)
        rw [HQ0.out.2.1, hv] at h
        exact h.mono fun _ _ h => h.le (by omega)
      have CSB : Hid (∀ w1, Below WC.heap.size WC w1 → Calls Try.prog 112 #[.slice A2 n2 c2, .slice A4 lr.length c4] w1 (RetN w1 (y - nv L1 % y) M)) := Lib.hid fun w1 hb => by
        have hk := HR0.out.2.2.2
        have h := r1_Sub A2 A4 n2 lr.length c2 c4 L2 lr w1 ((HL2.out.1.digA.grow HB3.out).grow hb) (HR0.out.1.digA.grow hb) HL2.out.1.len.1 rfl HL2.out.1.len.2 HR0.out.1.len.2 (by omega) (by omega) (by rw [HR0.out.2.1, HL2.out.2.2.2]; have := Int.emod_lt_of_pos (nv L1) hy; omega)
        rw [HR0.out.2.1, HL2.out.2.2.2] at h
        exact h.mono fun _ _ h => h.le hk2
      go_upto_region 6 with fail
      refine wp_region_grow8 (fun i => Nat.blt i 7) (fun _ => false) (fun w9 => Below WC.heap.size WC w9) (fun a b => Below a.heap.size a b) (dT WC.heap.size [.v (.slice A3 lq.length c3), .num 1 1, .num (nv L1 / y + 1) (K + 1), .v (.pointer (some ⟨w.heap.size + 1, 1, none⟩)), .v (.slice A2 n2 c2), .v (.slice A4 lr.length c4), .num (y - nv L1 % y) M]) (by kernel_rfl) (by kernel_rfl) (Below.refl _ _).drew (fun a b h1 h2 => ⟨below_then h1 h2, fun i _ v => dT_keep h2 i v⟩) (fun _ _ => Below.refl _ _) ?_ (fun _ _ _ _ h => by cases h) ?_
      · refine ⟨?_, ?_, ?_, ?_, ?_, ?_, ?_, trivial⟩
        all_goals
          intro vs w9 hp hF
          have HP := Lib.hid hp
          have z4 : w9.cell? ⟨w.heap.size + 1, 1, none⟩ = some (.slice A2 n2 c2) := (HC2.out.2.2.1.keep hp).2.1 1
          clear hp
          simp [depsB, Region.binds, dT] at hF
          simp [stL, depsB, Region.binds, Act.put, hF]
        · (go_wp2_with fail; exact ⟨rfl, Below.refl _ _⟩)
        · go_wp2_with fail
          exact ⟨⟨_, 1, [1], rfl, (digA_one (w := w9) (x := 1) (by omega)).base HP.out.size, by decide, nrm_one, by simp⟩, (Below.refl _ _).alloc (Nat.le_refl _) _⟩
        · obtain ⟨e0, A', c', l', e1, o1, v1', n1', k1'⟩ := hF
          have HO1 := Lib.hid (And.intro o1 (And.intro v1' k1'))
          clear o1 v1' n1' k1'
          simp only [e0, e1]
          go_wp2_with (go_at_call 110; (with_reducible refine (CAD.out _ _ _ _ HP.out HO1.out.1 HO1.out.2.1 HO1.out.2.2).mono ?_); intro e1' w1' h1; obtain ⟨v1, rfl, o1, hb1⟩ := h1.num (b := WC.heap.size) HP.out.size)
          first | exact ⟨o1, hb1⟩ | exact o1
        · (go_wp2_with fail; exact ⟨rfl, Below.refl _ _⟩)
        · (go_wp2_with fail; exact ⟨rfl, Below.refl _ _⟩)
        · (go_wp2_with fail; exact ⟨rfl, Below.refl _ _⟩)
        · go_wp2_with (go_at_call 112; (with_reducible refine (CSB.out _ HP.out).mono ?_); intro e1' w1' h1; obtain ⟨v1, rfl, o1, hb1⟩ := h1.num (b := WC.heap.size) HP.out.size)
          first | exact ⟨o1, hb1⟩ | exact o1
      intro vs w9 hp hF
      obtain ⟨A5, c5, l5, e2, h5⟩ : NumO WC.heap.size w9 (vs 2) (nv L1 / y + 1) (K + 1) := hF 2 (by decide) rfl
      obtain ⟨A6, c6, l6, e6, h6⟩ : NumO WC.heap.size w9 (vs 6) (y - nv L1 % y) M := hF 6 (by decide) rfl
      have QH : Hid (OwG WC.heap.size w9 (.slice A5 l5.length c5) l5 ∧ l5.length ≤ K + 1 ∧ sgn true (nv l5) = x / y) := Lib.hid ⟨h5.1, h5.2.2.2, by rw [h5.2.1, ← HL1.out.2.2.2]; exact (div_neg1 hy hnz.out).1⟩
      have RH : Hid (OwG WC.heap.size w9 (.slice A6 l6.length c6) l6 ∧ Nrm l6 ∧ l6.length ≤ M ∧ nv l6 = x % y) := Lib.hid ⟨h6.1, h6.2.2.1, h6.2.2.2, by rw [h6.2.1, ← HL1.out.2.2.2]; exact (div_neg1 hy hnz.out).2⟩
      have HC3 : Hid (Below w.heap.size w w9 ∧ Box w9 w.heap.size [.bool true, .slice A1 n1 c1] ∧ Box w9 (w.heap.size + 1) [.bool false, .slice A2 n2 c2] ∧ Box w9 (w.heap.size + 1 + 1) [.bool false, .slice none 0 0] ∧ Box w9 (w.heap.size + 1 + 1 + 1) [.bool false, .slice none 0 0]) := Lib.hid ⟨below_then HC2.out.1 hp, HC2.out.2.1.keep hp, HC2.out.2.2.1.keep hp, HC2.out.2.2.2.1.keep hp, HC2.out.2.2.2.2.keep hp⟩
      have hlt' : w.heap.size + 1 + 1 + 1 < WC.heap.size := HC2.out.2.2.2.2.1
      have hrs : w.heap.size ≤ WC.heap.size := HC2.out.1.size
      clear RBS HLT HC2
      have HC2 := HC3
      have RBS := Lib.hid hrs
      have HLT := Lib.hid hlt'
      clear HC3 hrs hlt' h5 h6 hF hp y1 y3 hk1 hk2
      have y1 : w9.cell? ⟨w.heap.size, 0, none⟩ = some (.bool true) := HC2.out.2.1.2.1 0
      have y3 : w9.cell? ⟨w.heap.size + 1, 0, none⟩ = some (.bool false) := HC2.out.2.2.1.2.1 0
      show wpList Try.prog _ _ [_, _] _ _
      simp [stL, Act.put, e2, e6]
      have CQT : Hid (Calls Try.prog 103 #[.agg #[.bool true, .slice A5 l5.length c5]] w9 (RetI w9 (x / y) (K + 1))) := Lib.hid (by
        have h := r2_Trim _ _ (K + 1) w9.heap.size w9 (IntB.mk (ng := true) ⟨QH.out.1.digB (b' := w9.heap.size), rfl, QH.out.1.len.2, QH.out.2.1⟩) (by omega)
        rw [show sgn true (nv l5) = x / y from QH.out.2.2] at h
        exact h)
      go_wp2_with (first
        | (go_at_call 103; (with_reducible refine CQT.out.mono ?_); rintro e8 w8 ⟨v8, rfl, hi, hb8⟩; have HQ := Lib.hid hi; obtain ⟨g8, A8, c8, l8, rfl, -⟩ := hi; have HB8 := Lib.hid hb8; clear hb8)
        | ((with_reducible show wpList _ _ _ (Oper.mk none (.store 26 (.tmp 4) _) _ _ _ _ :: _) _ _); refine wp_st rfl 26 _ _ rfl (w.heap.size + 1 + 1) 0 [_, _] rfl rfl size_Int rfl (HC2.out.2.2.2.1.keep HB8.out) (Nat.le_refl _) rfl ?_; intro W1x cA gA)
        | ((with_reducible show wpList _ _ _ (Oper.mk none (.store 26 (.tmp 5) _) _ _ _ _ :: _) _ _); refine wp_st rfl 26 _ _ rfl (w.heap.size + 1 + 1 + 1) 0 [_, _] rfl rfl size_Int rfl ((HC2.out.2.2.2.2.keep HB8.out).grown gA (fun e => by injection e with e; omega)) (Nat.le_refl _) rfl ?_; intro W2x cB gB))
      have hb := below_then HC2.out.1 HB8.out
      have hW := put_facts (g := w.heap.size + 1 + 1 + 1) (put_facts (g := w.heap.size + 1 + 1) hb (by omega) gA) (by omega) gB
      have hl1 := HC2.out.2.2.2.1.1
      have hl2 := HC2.out.2.2.2.2.1
      have hl3 := HLT.out
      have hq := ((HQ.out.away gA (by omega)).away gB (by omega)).base (b' := w.heap.size) HC2.out.1.size
      have hr := (((RH.out.1.grow HB8.out).away gA (by omega)).away gB (by omega)).base (base' := w.heap.size) RBS.out
      have cA' := cA.grown gB (fun e => by injection e with e; omega)
      refine bodyPost_ret (resCCT rfl _ _ W2x (g := w.heap.size + 1 + 1) (g' := w.heap.size + 1 + 1 + 1) rfl rfl (res_box 26 cA' dI HI.out.1 HI.out.2 size_Int) (res_box 26 cB dI HI.out.1 HI.out.2 size_Int)) rfl ?_
      exact ⟨_, rfl, ⟨_, _, rfl, hq, ⟨false, A6, c6, l6, rfl, hr, RH.out.2.1, RH.out.2.2.1, RH.out.2.2.2⟩⟩, hW⟩
end Go.Proofs.Ytmdfgidejdiiiaa
