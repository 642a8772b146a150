/- Reference of integers: Abs, Mul, Add. Printed by gen_io.py. -/
import Derived.Test.YtmdfgidejdiiiaalImtoIn
set_option linter.unusedVariables false
set_option linter.unusedSimpArgs false
namespace Go.Proofs.Ytmdfgidejdiiiaa
open Go.RowKit
set_option maxRecDepth 100000 in
set_option maxHeartbeats 4000000 in
theorem r2_Mul (v u : Value) (x y : Int) (K M b b' : Nat) (w : World) (h : IntB b w v x K) (h' : IntB b' w u y M) (h9 : K ≤ 1000000) (h8 : M ≤ 1000000) : Calls Try.prog 62 #[v, u] w (RetI w (x * y) (K + M)) := by
  obtain ⟨na, A, n, c, X, rfl, hX, hn, hc, hnK, rfl⟩ := h
  obtain ⟨nb, B, m, d, Y, rfl, hY, hm, hd, hmM, rfl⟩ := h'
  have CM : Hid (∀ w1, Below w.heap.size w w1 → Calls Try.prog 104 #[.slice A n c, .slice B m d] w1 (RetN w1 (nv X * nv Y) (K + M))) := Lib.hid fun w1 hb => (r1_Mul A B n m c d X Y w1 (hX.1.grow hb) (hY.1.grow hb) hn hm hc hd (by omega) (by omega)).mono fun _ _ h => h.le (by omega)
  have HKM : Hid (K + M ≤ 10000000) := Lib.hid (by omega)
  have e : sgn na (nv X) * sgn nb (nv Y) = sgn (na != nb) (nv X * nv Y) := by cases na <;> cases nb <;> simp [sgn, Int.neg_mul, Int.mul_neg]
  rw [e]
  obtain ⟨N, hN⟩ : ∃ N, nv X * nv Y = N := ⟨_, rfl⟩
  rw [hN] at CM ⊢
  clear hX hY hn hm hc hd hnK hmM e hN
  obtain ⟨dI, hI1, hI2⟩ := row_Int
  have HI := Lib.hid (And.intro hI1 hI2)
  clear hI1 hI2
  go_enter Try.func62, Try.ntmps62
  go_upto_region 1 with fail
  have hB0 : Below w.heap.size w (((w.alloc (.cells #[.bool na, .slice A n c] 26)).alloc (.cells #[.bool nb, .slice B m d] 26)).alloc (.cells #[.bool false, .slice none 0 0] 26)) := ((((Below.refl _ _).alloc (Nat.le_refl _) _).alloc (by simp; try omega) _).alloc (by simp; try omega) _)
  have bx0 : Box (((w.alloc (.cells #[.bool na, .slice A n c] 26)).alloc (.cells #[.bool nb, .slice B m d] 26)).alloc (.cells #[.bool false, .slice none 0 0] 26)) (w.heap.size) [.bool na, .slice A n c] := (((Box.new (by simp)).alloc _).alloc _)
  have bx1 : Box (((w.alloc (.cells #[.bool na, .slice A n c] 26)).alloc (.cells #[.bool nb, .slice B m d] 26)).alloc (.cells #[.bool false, .slice none 0 0] 26)) (w.heap.size + 1) [.bool nb, .slice B m d] := ((Box.new (by simp)).alloc _)
  have bx2 : Box (((w.alloc (.cells #[.bool na, .slice A n c] 26)).alloc (.cells #[.bool nb, .slice B m d] 26)).alloc (.cells #[.bool false, .slice none 0 0] 26)) (w.heap.size + 1 + 1) [.bool false, .slice none 0 0] := (Box.new (by simp))
  generalize ((w.alloc (.cells #[.bool na, .slice A n c] 26)).alloc (.cells #[.bool nb, .slice B m d] 26)).alloc (.cells #[.bool false, .slice none 0 0] 26) = wA at hB0 bx0 bx1 bx2 ⊢
  have HA := Lib.hid (And.intro hB0 (And.intro bx0 (And.intro bx1 bx2)))
  clear hB0 bx0 bx1 bx2
  refine wp_region_grow7 (fun i => Nat.blt i 12) (fun _ => false) (fun w9 => Below wA.heap.size wA w9) (gT [.v (.pointer (some ⟨w.heap.size, 0, none⟩)), .v (.bool na), .v (.pointer (some ⟨w.heap.size + 1, 0, none⟩)), .v (.bool nb), .v (.bool (na != nb)), .v (.pointer (some ⟨w.heap.size, 1, none⟩)), .v (.slice A n c), .v (.pointer (some ⟨w.heap.size + 1, 1, none⟩)), .v (.slice B m d), .num N (K + M), .int (sgn (na != nb) N) (K + M), .int (sgn (na != nb) N) (K + M)]) (fun a b => Below a.heap.size a b) (dT wA.heap.size [.v (.pointer (some ⟨w.heap.size, 0, none⟩)), .v (.bool na), .v (.pointer (some ⟨w.heap.size + 1, 0, none⟩)), .v (.bool nb), .v (.bool (na != nb)), .v (.pointer (some ⟨w.heap.size, 1, none⟩)), .v (.slice A n c), .v (.pointer (some ⟨w.heap.size + 1, 1, none⟩)), .v (.slice B m d), .num N (K + M), .int (sgn (na != nb) N) (K + M), .int (sgn (na != nb) N) (K + M)]) (by kernel_rfl) (by kernel_rfl) (Below.refl _ _).drew (fun j x a b h1 h2 => ⟨below_then h1 h2.1, fun i _ v => dT_keep h2.1 i v, Below.refl _ _, fun w0 h => below_then h h2.1⟩) (fun j v w h => by cases h) ?_ (fun j o _ _ h => by cases h) ?_
  · refine ⟨?_, ?_, ?_, ?_, ?_, ?_, ?_, ?_, ?_, ?_, ?_, ?_, trivial⟩
    all_goals
      intro vs w9 hp hF
      have HP := Lib.hid hp
      obtain ⟨z1, z2⟩ := (HA.out.2.1.keep hp).c2
      obtain ⟨z3, z4⟩ := (HA.out.2.2.1.keep hp).c2
      clear hp
      simp [depsB, Region.binds, dT] at hF
      simp [stL, depsB, Region.binds, Act.put, hF]
    · (go_wp2_with fail; exact ⟨rfl, Below.refl _ _, nbx rfl⟩)
    · (go_wp2_with fail; exact ⟨rfl, Below.refl _ _, nbx rfl⟩)
    · (go_wp2_with fail; exact ⟨rfl, Below.refl _ _, nbx rfl⟩)
    · (go_wp2_with fail; exact ⟨rfl, Below.refl _ _, nbx rfl⟩)
    · (go_wp2_with fail; exact ⟨rfl, Below.refl _ _, nbx rfl⟩)
    · (go_wp2_with fail; exact ⟨rfl, Below.refl _ _, nbx rfl⟩)
    · (go_wp2_with fail; exact ⟨rfl, Below.refl _ _, nbx rfl⟩)
    · (go_wp2_with fail; exact ⟨rfl, Below.refl _ _, nbx rfl⟩)
    · (go_wp2_with fail; exact ⟨rfl, Below.refl _ _, nbx rfl⟩)
    · go_wp2_with (go_at_call 104; (with_reducible refine (CM.out _ (below_then HA.out.1 HP.out)).mono ?_); intro e1 w1' h1; obtain ⟨v1, rfl, o1, hb1⟩ := h1.num (b := wA.heap.size) HP.out.size)
      exact ⟨o1, hb1, nbx rfl⟩
    · obtain ⟨e4, A', c', l', e9, o9, n9, m9, k9⟩ := hF
      have HN9 := Lib.hid n9
      clear n9
      simp only [e4, e9]
      go_wp2_with fail
      exact ⟨⟨_, A', c', l', rfl, o9, m9, k9, by rw [HN9.out]⟩, Below.refl _ _, nbx rfl⟩
    · obtain ⟨⟨g', A', c', l', e, h'⟩, -⟩ := hF
      have HH : Hid (IntO wA.heap.size w9 (.agg #[.bool g', .slice A' l'.length c']) (sgn (na != nb) N) (K + M)) := Lib.hid ⟨_, _, _, _, rfl, h'⟩
      clear h'
      simp only [e]
      go_wp2_with (go_at_call 103; (with_reducible refine (r2_Trim _ _ _ wA.heap.size _ HH.out.intB HKM.out).mono ?_); rintro e1 w1' ⟨v1, rfl, o1, hb1⟩)
      exact ⟨IntO.base o1 HP.out.size, hb1, nbx rfl⟩
  intro vs w9 hp hF hpr
  obtain ⟨gR, AR, cR, lR, eR, hR⟩ : IntO wA.heap.size w9 (vs 11) (sgn (na != nb) N) (K + M) := hF 11 (by decide) rfl
  have hR' : IntO wA.heap.size w9 (.agg #[.bool gR, .slice AR lR.length cR]) (sgn (na != nb) N) (K + M) := ⟨_, _, _, _, rfl, hR⟩
  have HBE := Lib.hid hp
  have HOE := Lib.hid hR'
  clear hF hpr hR hR' hp
  show wpList Try.prog _ _ [_] _ _
  simp [stL, Act.put, eR]
  refine wp_st rfl 26 _ _ rfl (w.heap.size + 1 + 1) 0 [_, _] rfl rfl size_Int rfl (HA.out.2.2.2.keep HBE.out) (Nat.le_refl _) rfl ?_
  intro W9 c9 g9
  go_wp2_with fail
  have hW := put_facts (g := w.heap.size + 1 + 1) (below_then HA.out.1 HBE.out) (by omega) g9
  have ho := (HOE.out.away g9 (HA.out.2.2.2.1)).base (b' := w.heap.size) (HA.out.1.size)
  refine bodyPost_ret (resC rfl _ _ W9 (g := w.heap.size + 1 + 1) rfl (res_box 26 c9 dI HI.out.1 HI.out.2 size_Int)) rfl ?_
  exact ⟨_, rfl, ho, hW⟩
set_option maxRecDepth 100000 in
set_option maxHeartbeats 4000000 in
theorem r2_Add (v u : Value) (x y : Int) (K M b b' : Nat) (w : World) (h : IntB b w v x K) (h' : IntB b' w u y M) (h9 : K ≤ 1000000) (h8 : M ≤ 1000000) : Calls Try.prog 74 #[v, u] w (RetI w (x + y) (max K M + 1)) := by
  have CX : Hid (∀ w1, Below w.heap.size w w1 → Calls Try.prog 103 #[v] w1 (RetI w1 x K)) := Lib.hid fun w1 hb => r2_Trim v x K b w1 (h.grow hb) (by omega)
  have CY : Hid (∀ w1, Below w.heap.size w w1 → Calls Try.prog 103 #[u] w1 (RetI w1 y M)) := Lib.hid fun w1 hb => r2_Trim u y M b' w1 (h'.grow hb) (by omega)
  have HKM : Hid (max K M + 1 ≤ 10000000) := Lib.hid (by omega)
  obtain ⟨na, A, n, c, X, rfl, -⟩ := h
  obtain ⟨nb, B, m, d, Y, rfl, -⟩ := h'
  obtain ⟨dI, hI1, hI2⟩ := row_Int
  have HI := Lib.hid (And.intro hI1 hI2)
  clear hI1 hI2
  go_enter Try.func74, Try.ntmps74
  go_upto_region 1 with fail
  have hB0 : Below w.heap.size w (((w.alloc (.cells #[.bool na, .slice A n c] 26)).alloc (.cells #[.bool nb, .slice B m d] 26)).alloc (.cells #[.bool false, .slice none 0 0] 26)) := ((((Below.refl _ _).alloc (Nat.le_refl _) _).alloc (by simp; try omega) _).alloc (by simp; try omega) _)
  have bx0 : Box (((w.alloc (.cells #[.bool na, .slice A n c] 26)).alloc (.cells #[.bool nb, .slice B m d] 26)).alloc (.cells #[.bool false, .slice none 0 0] 26)) (w.heap.size) [.bool na, .slice A n c] := (((Box.new (by simp)).alloc _).alloc _)
  have bx1 : Box (((w.alloc (.cells #[.bool na, .slice A n c] 26)).alloc (.cells #[.bool nb, .slice B m d] 26)).alloc (.cells #[.bool false, .slice none 0 0] 26)) (w.heap.size + 1) [.bool nb, .slice B m d] := ((Box.new (by simp)).alloc _)
  have bx2 : Box (((w.alloc (.cells #[.bool na, .slice A n c] 26)).alloc (.cells #[.bool nb, .slice B m d] 26)).alloc (.cells #[.bool false, .slice none 0 0] 26)) (w.heap.size + 1 + 1) [.bool false, .slice none 0 0] := (Box.new (by simp))
  generalize ((w.alloc (.cells #[.bool na, .slice A n c] 26)).alloc (.cells #[.bool nb, .slice B m d] 26)).alloc (.cells #[.bool false, .slice none 0 0] 26) = wA at hB0 bx0 bx1 bx2 ⊢
  have HA := Lib.hid (And.intro hB0 (And.intro bx0 (And.intro bx1 bx2)))
  clear hB0 bx0 bx1 bx2
  refine wp_region_grow7 (fun i => Nat.blt i 4) (fun _ => false) (fun w9 => Below wA.heap.size wA w9) (gT [.v (.agg #[.bool na, .slice A n c]), .int x K, .v (.agg #[.bool nb, .slice B m d]), .int y M]) (fun a b => Below a.heap.size a b) (dT wA.heap.size [.v (.agg #[.bool na, .slice A n c]), .int x K, .v (.agg #[.bool nb, .slice B m d]), .int y M]) (by kernel_rfl) (by kernel_rfl) (Below.refl _ _).drew (fun j x a b h1 h2 => ⟨below_then h1 h2.1, fun i _ v => dT_keep h2.1 i v, Below.refl _ _, fun w0 h => below_then h h2.1⟩) (fun j v w h => by cases h) ?_ (fun j o _ _ h => by cases h) ?_
  · refine ⟨?_, ?_, ?_, ?_, trivial⟩
    all_goals
      intro vs w9 hp hF
      have HP := Lib.hid hp
      clear hp
      simp [depsB, Region.binds, dT] at hF
      simp [stL, depsB, Region.binds, Act.put, hF]
    · (obtain ⟨dI, hI1, hI2⟩ := row_Int; refine wp_ld rfl 26 _ rfl (w.heap.size) 0 rfl (HA.out.2.1.keep HP.out) [.bool na, .slice A n c] (fun j v h => by rcases j with _ | _ | _ | _ | j <;> simp at h ⊢ <;> exact h) dI hI1 hI2 size_Int ?_; go_wp2_with fail; exact ⟨rfl, Below.refl _ _, nbx rfl⟩)
    · go_wp2_with (go_at_call 103; (with_reducible refine (CX.out _ (below_then HA.out.1 HP.out)).mono ?_); rintro e1 w1' ⟨v1, rfl, o1, hb1⟩)
      exact ⟨IntO.base o1 HP.out.size, hb1, nbx rfl⟩
    · (obtain ⟨dI, hI1, hI2⟩ := row_Int; refine wp_ld rfl 26 _ rfl (w.heap.size + 1) 0 rfl (HA.out.2.2.1.keep HP.out) [.bool nb, .slice B m d] (fun j v h => by rcases j with _ | _ | _ | _ | j <;> simp at h ⊢ <;> exact h) dI hI1 hI2 size_Int ?_; go_wp2_with fail; exact ⟨rfl, Below.refl _ _, nbx rfl⟩)
    · go_wp2_with (go_at_call 103; (with_reducible refine (CY.out _ (below_then HA.out.1 HP.out)).mono ?_); rintro e1 w1' ⟨v1, rfl, o1, hb1⟩)
      exact ⟨IntO.base o1 HP.out.size, hb1, nbx rfl⟩
  intro vs w9 hp hF hpr
  have ex : IntO wA.heap.size w9 (vs 1) x K := hF 1 (by decide) rfl
  have ey : IntO wA.heap.size w9 (vs 3) y M := hF 3 (by decide) rfl
  obtain ⟨ga, A1, c1, l1, e1, -⟩ := ex
  obtain ⟨gb, A2, c2, l2, e3, -⟩ := ey
  have ex : IntO wA.heap.size w9 (.agg #[.bool ga, .slice A1 l1.length c1]) x K := e1 ▸ (hF 1 (by decide) rfl : IntO wA.heap.size w9 (vs 1) x K)
  have ey : IntO wA.heap.size w9 (.agg #[.bool gb, .slice A2 l2.length c2]) y M := e3 ▸ (hF 3 (by decide) rfl : IntO wA.heap.size w9 (vs 3) y M)
  obtain ⟨n1, hn1⟩ : ∃ n, l1.length = n := ⟨_, rfl⟩
  obtain ⟨n2, hn2⟩ : ∃ n, l2.length = n := ⟨_, rfl⟩
  rw [hn1] at ex e1
  rw [hn2] at ey e3
  obtain ⟨L1, o1, r1, q1, k1, s1⟩ := ex.low (l := l1)
  obtain ⟨L2, o2, r2, q2, k2, s2⟩ := ey.low (l := l2)
  clear hF hpr ex ey hn1 hn2
  show wpList Try.prog _ _ [_, _] _ _
  simp [stL, Act.put, e1, e3]
  have hl0 := HA.out.2.1.1
  have hl1 := HA.out.2.2.1.1
  refine wp_st rfl 26 _ _ rfl (w.heap.size) 0 [.bool ga, .slice A1 n1 c1] rfl rfl size_Int rfl (HA.out.2.1.keep hp) (Nat.le_refl _) rfl ?_
  intro W1 c1' g1
  have b1 := (HA.out.2.2.1.keep hp).grown g1 (fun e => by injection e with e; omega)
  have b2 := (HA.out.2.2.2.keep hp).grown g1 (fun e => by injection e with e; omega)
  simp only [Act.put]
  refine wp_st rfl 26 _ _ rfl (w.heap.size + 1) 0 [.bool gb, .slice A2 n2 c2] rfl rfl size_Int rfl b1 (Nat.le_refl _) rfl ?_
  intro WB c2' g2
  have HC : Hid (Below w.heap.size w WB ∧ Box WB w.heap.size [.bool ga, .slice A1 n1 c1] ∧ Box WB (w.heap.size + 1) [.bool gb, .slice A2 n2 c2] ∧ Box WB (w.heap.size + 1 + 1) [.bool false, .slice none 0 0]) := Lib.hid ⟨put_facts (g := w.heap.size + 1) (put_facts (g := w.heap.size) (below_then HA.out.1 hp) (Nat.le_refl _) g1) (by omega) g2, c1'.grown g2 (fun e => by injection e with e; omega), c2', b2.grown g2 (fun e => by injection e with e; omega)⟩
  have HL1 : Hid (OwG w.heap.size WB (.slice A1 n1 c1) L1 ∧ L1.length = n1 ∧ n1 ≤ K ∧ sgn ga (nv L1) = x) := Lib.hid ⟨((o1.away g1 hl0).away g2 hl1).base HA.out.1.size, q1, k1, s1⟩
  have HL2 : Hid (OwG w.heap.size WB (.slice A2 n2 c2) L2 ∧ L2.length = n2 ∧ n2 ≤ M ∧ sgn gb (nv L2) = y) := Lib.hid ⟨((o2.away g1 hl0).away g2 hl1).base HA.out.1.size, q2, k2, s2⟩
  clear o1 r1 q1 k1 s1 o2 r2 q2 k2 s2 e1 e3 hl0 hl1 b1 b2 c1' c2' g1 g2 hp CX CY HA
  have y1 : WB.cell? ⟨w.heap.size, 0, none⟩ = some (.bool ga) := HC.out.2.1.2.1 0
  have y2 : WB.cell? ⟨w.heap.size, 1, none⟩ = some (.slice A1 n1 c1) := HC.out.2.1.2.1 1
  have y3 : WB.cell? ⟨w.heap.size + 1, 0, none⟩ = some (.bool gb) := HC.out.2.2.1.2.1 0
  have y4 : WB.cell? ⟨w.heap.size + 1, 1, none⟩ = some (.slice A2 n2 c2) := HC.out.2.2.1.2.1 1
  have dl1 := HL1.out.1.len
  have dl2 := HL2.out.1.len
  have hk1 := HL1.out.2.2.1
  have hk2 := HL2.out.2.2.1
  by_cases hs : ga = gb
  · subst hs
    have CM : Hid (∀ w1, Below WB.heap.size WB w1 → Calls Try.prog 110 #[.slice A1 n1 c1, .slice A2 n2 c2] w1 (RetN w1 (nv L1 + nv L2) (max K M + 1))) := Lib.hid fun w1 hb => (r1_Add A1 A2 n1 n2 c1 c2 L1 L2 w1 (HL1.out.1.digA.grow hb) (HL2.out.1.digA.grow hb) dl1.1 dl2.1 dl1.2 dl2.2 (by omega) (by omega)).mono fun _ _ h => h.le (by omega)
    have HZ : Hid (sgn ga (nv L1 + nv L2) = x + y) := Lib.hid (by rw [← HL1.out.2.2.2, ← HL2.out.2.2.2]; cases ga <;> simp [sgn] <;> omega)
    clear dl1 dl2 hk1 hk2
    go_wp2_with fail
    go_upto_region 3 with fail
    clear y1 y2 y3 y4
    refine wp_region_grow7 (fun i => Nat.blt i 9) (fun _ => false) (fun w9 => Below WB.heap.size WB w9) (gT [.v (.pointer (some ⟨w.heap.size, 0, none⟩)), .v (.bool ga), .v (.pointer (some ⟨w.heap.size, 1, none⟩)), .v (.slice A1 n1 c1), .v (.pointer (some ⟨w.heap.size + 1, 1, none⟩)), .v (.slice A2 n2 c2), .num (nv L1 + nv L2) (max K M + 1), .int (x + y) (max K M + 1), .int (x + y) (max K M + 1)]) (fun a b => Below a.heap.size a b) (dT WB.heap.size [.v (.pointer (some ⟨w.heap.size, 0, none⟩)), .v (.bool ga), .v (.pointer (some ⟨w.heap.size, 1, none⟩)), .v (.slice A1 n1 c1), .v (.pointer (some ⟨w.heap.size + 1, 1, none⟩)), .v (.slice A2 n2 c2), .num (nv L1 + nv L2) (max K M + 1), .int (x + y) (max K M + 1), .int (x + y) (max K M + 1)]) (by kernel_rfl) (by kernel_rfl) (Below.refl _ _).drew (fun j x a b h1 h2 => ⟨below_then h1 h2.1, fun i _ v => dT_keep h2.1 i v, Below.refl _ _, fun w0 h => below_then h h2.1⟩) (fun j v w h => by cases h) ?_ (fun j o _ _ h => by cases h) ?_
    · refine ⟨?_, ?_, ?_, ?_, ?_, ?_, ?_, ?_, ?_, trivial⟩
      all_goals
        intro vs w9 hp hF
        have HP := Lib.hid hp
        obtain ⟨z1, z2⟩ := (HC.out.2.1.keep hp).c2
        obtain ⟨z3, z4⟩ := (HC.out.2.2.1.keep hp).c2
        clear hp
        simp [depsB, Region.binds, dT] at hF
        simp [stL, depsB, Region.binds, Act.put, hF]
      · (go_wp2_with fail; exact ⟨rfl, Below.refl _ _, nbx rfl⟩)
      · (go_wp2_with fail; exact ⟨rfl, Below.refl _ _, nbx rfl⟩)
      · (go_wp2_with fail; exact ⟨rfl, Below.refl _ _, nbx rfl⟩)
      · (go_wp2_with fail; exact ⟨rfl, Below.refl _ _, nbx rfl⟩)
      · (go_wp2_with fail; exact ⟨rfl, Below.refl _ _, nbx rfl⟩)
      · (go_wp2_with fail; exact ⟨rfl, Below.refl _ _, nbx rfl⟩)
      · go_wp2_with (go_at_call 110; (with_reducible refine (CM.out _ HP.out).mono ?_); intro e1 w1' h1; obtain ⟨v1, rfl, o1, hb1⟩ := h1.num (b := WB.heap.size) HP.out.size)
        exact ⟨o1, hb1, nbx rfl⟩
      · obtain ⟨e1, A', c', l', e6, o6, n6, m6, k6⟩ := hF
        have HN6 := Lib.hid n6
        clear n6
        simp only [e1, e6]
        go_wp2_with fail
        exact ⟨⟨_, A', c', l', rfl, o6, m6, k6, by rw [HN6.out]; exact HZ.out⟩, Below.refl _ _, nbx rfl⟩
      · obtain ⟨⟨g', A', c', l', e, h'⟩, -⟩ := hF
        have HH : Hid (IntO WB.heap.size w9 (.agg #[.bool g', .slice A' l'.length c']) (x + y) (max K M + 1)) := Lib.hid ⟨_, _, _, _, rfl, h'⟩
        clear h'
        simp only [e]
        go_wp2_with (go_at_call 103; (with_reducible refine (r2_Trim _ _ _ WB.heap.size _ HH.out.intB HKM.out).mono ?_); rintro e1 w1' ⟨v1, rfl, o1, hb1⟩)
        exact ⟨IntO.base o1 HP.out.size, hb1, nbx rfl⟩
    intro vs w9 hp hF hpr
    obtain ⟨gR, AR, cR, lR, eR, hR⟩ : IntO WB.heap.size w9 (vs 8) (x + y) (max K M + 1) := hF 8 (by decide) rfl
    have hR' : IntO WB.heap.size w9 (.agg #[.bool gR, .slice AR lR.length cR]) (x + y) (max K M + 1) := ⟨_, _, _, _, rfl, hR⟩
    have HBE := Lib.hid hp
    have HOE := Lib.hid hR'
    clear hF hpr hR hR' hp
    show wpList Try.prog _ _ [_] _ _
    simp [stL, Act.put, eR]
    refine wp_st rfl 26 _ _ rfl (w.heap.size + 1 + 1) 0 [_, _] rfl rfl size_Int rfl (HC.out.2.2.2.keep HBE.out) (Nat.le_refl _) rfl ?_
    intro W9 c9 g9
    go_wp2_with fail
    have hW := put_facts (g := w.heap.size + 1 + 1) (below_then HC.out.1 HBE.out) (by omega) g9
    have ho := (HOE.out.away g9 (HC.out.2.2.2.1)).base (b' := w.heap.size) (HC.out.1.size)
    refine bodyPost_ret (resC rfl _ _ W9 (g := w.heap.size + 1 + 1) rfl (res_box 26 c9 dI HI.out.1 HI.out.2 size_Int)) rfl ?_
    exact ⟨_, rfl, ho, hW⟩
  · have hs' : (ga == gb) = false := by simpa using hs
    have CQ : Hid (Calls Try.prog 111 #[.slice A1 n1 c1, .slice A2 n2 c2] WB fun e w' => e = .returned (.int .i64 (cmpI (nv L1) (nv L2))) ∧ Below WB.heap.size WB w') := Lib.hid (r1_Compare A1 A2 n1 n2 c1 c2 L1 L2 WB HL1.out.1.digA HL2.out.1.digA dl1.1 dl2.1 dl1.2 dl2.2 (by omega) (by omega))
    obtain ⟨R, hR⟩ : ∃ R, cmpI (nv L1) (nv L2) = R := ⟨_, rfl⟩
    rw [hR] at CQ
    by_cases hr : 0 ≤ R
    · have hle : nv L2 ≤ nv L1 := by
        unfold cmpI at hR
        split at hR
        · omega
        · omega
      go_wp2_with fail
      go_upto_region 5 with (go_at_call 111; (with_reducible refine CQ.out.mono ?_); rintro e3 WC ⟨rfl, hb3⟩; have HB3 := Lib.hid hb3; clear hb3)
      have HC2 : Hid (Below w.heap.size w WC ∧ Box WC w.heap.size [.bool ga, .slice A1 n1 c1] ∧ Box WC (w.heap.size + 1) [.bool gb, .slice A2 n2 c2] ∧ Box WC (w.heap.size + 1 + 1) [.bool false, .slice none 0 0]) := Lib.hid ⟨below_then HC.out.1 HB3.out, HC.out.2.1.keep HB3.out, HC.out.2.2.1.keep HB3.out, HC.out.2.2.2.keep HB3.out⟩
      have CM : Hid (∀ w1, Below WC.heap.size WC w1 → Calls Try.prog 112 #[.slice A1 n1 c1, .slice A2 n2 c2] w1 (RetN w1 (nv L1 - nv L2) (max K M + 1))) := Lib.hid fun w1 hb => (r1_Sub A1 A2 n1 n2 c1 c2 L1 L2 w1 ((HL1.out.1.digA.grow HB3.out).grow hb) ((HL2.out.1.digA.grow HB3.out).grow hb) dl1.1 dl2.1 dl1.2 dl2.2 (by omega) (by omega) hle).mono fun _ _ h => h.le (by omega)
      have HZ : Hid (sgn ga (nv L1 - nv L2) = x + y) := Lib.hid (by rw [← HL1.out.2.2.2, ← HL2.out.2.2.2]; cases ga <;> cases gb <;> simp [sgn] at hs ⊢ <;> omega)
      clear dl1 dl2 hk1 hk2 y1 y2 y3 y4 CQ hR hle hs hs' HB3 HC
      refine wp_region_grow7 (fun i => Nat.blt i 9) (fun _ => false) (fun w9 => Below WC.heap.size WC w9) (gT [.v (.pointer (some ⟨w.heap.size, 0, none⟩)), .v (.bool ga), .v (.pointer (some ⟨w.heap.size, 1, none⟩)), .v (.slice A1 n1 c1), .v (.pointer (some ⟨w.heap.size + 1, 1, none⟩)), .v (.slice A2 n2 c2), .num (nv L1 - nv L2) (max K M + 1), .int (x + y) (max K M + 1), .int (x + y) (max K M + 1)]) (fun a b => Below a.heap.size a b) (dT WC.heap.size [.v (.pointer (some ⟨w.heap.size, 0, none⟩)), .v (.bool ga), .v (.pointer (some ⟨w.heap.size, 1, none⟩)), .v (.slice A1 n1 c1), .v (.pointer (some ⟨w.heap.size + 1, 1, none⟩)), .v (.slice A2 n2 c2), .num (nv L1 - nv L2) (max K M + 1), .int (x + y) (max K M + 1), .int (x + y) (max K M + 1)]) (by kernel_rfl) (by kernel_rfl) (Below.refl _ _).drew (fun j x a b h1 h2 => ⟨below_then h1 h2.1, fun i _ v => dT_keep h2.1 i v, Below.refl _ _, fun w0 h => below_then h h2.1⟩) (fun j v w h => by cases h) ?_ (fun j o _ _ h => by cases h) ?_
      · refine ⟨?_, ?_, ?_, ?_, ?_, ?_, ?_, ?_, ?_, trivial⟩
        all_goals
          intro vs w9 hp hF
          have HP := Lib.hid hp
          obtain ⟨z1, z2⟩ := (HC2.out.2.1.keep hp).c2
          obtain ⟨z3, z4⟩ := (HC2.out.2.2.1.keep hp).c2
          clear hp
          simp [depsB, Region.binds, dT] at hF
          simp [stL, depsB, Region.binds, Act.put, hF]
        · (go_wp2_with fail; exact ⟨rfl, Below.refl _ _, nbx rfl⟩)
        · (go_wp2_with fail; exact ⟨rfl, Below.refl _ _, nbx rfl⟩)
        · (go_wp2_with fail; exact ⟨rfl, Below.refl _ _, nbx rfl⟩)
        · (go_wp2_with fail; exact ⟨rfl, Below.refl _ _, nbx rfl⟩)
        · (go_wp2_with fail; exact ⟨rfl, Below.refl _ _, nbx rfl⟩)
        · (go_wp2_with fail; exact ⟨rfl, Below.refl _ _, nbx rfl⟩)
        · go_wp2_with (go_at_call 112; (with_reducible refine (CM.out _ HP.out).mono ?_); intro e1 w1' h1; obtain ⟨v1, rfl, o1, hb1⟩ := h1.num (b := WC.heap.size) HP.out.size)
          exact ⟨o1, hb1, nbx rfl⟩
        · obtain ⟨e1, A', c', l', e6, o6, n6, m6, k6⟩ := hF
          have HN6 := Lib.hid n6
          clear n6
          simp only [e1, e6]
          go_wp2_with fail
          exact ⟨⟨_, A', c', l', rfl, o6, m6, k6, by rw [HN6.out]; exact HZ.out⟩, Below.refl _ _, nbx rfl⟩
        · obtain ⟨⟨g', A', c', l', e, h'⟩, -⟩ := hF
          have HH : Hid (IntO WC.heap.size w9 (.agg #[.bool g', .slice A' l'.length c']) (x + y) (max K M + 1)) := Lib.hid ⟨_, _, _, _, rfl, h'⟩
          clear h'
          simp only [e]
          go_wp2_with (go_at_call 103; (with_reducible refine (r2_Trim _ _ _ WC.heap.size _ HH.out.intB HKM.out).mono ?_); rintro e1 w1' ⟨v1, rfl, o1, hb1⟩)
          exact ⟨IntO.base o1 HP.out.size, hb1, nbx rfl⟩
      intro vs w9 hp hF hpr
      obtain ⟨gR, AR, cR, lR, eR, hR⟩ : IntO WC.heap.size w9 (vs 8) (x + y) (max K M + 1) := hF 8 (by decide) rfl
      have hR' : IntO WC.heap.size w9 (.agg #[.bool gR, .slice AR lR.length cR]) (x + y) (max K M + 1) := ⟨_, _, _, _, rfl, hR⟩
      have HBE := Lib.hid hp
      have HOE := Lib.hid hR'
      clear hF hpr hR hR' hp
      show wpList Try.prog _ _ [_] _ _
      simp [stL, Act.put, eR]
      refine wp_st rfl 26 _ _ rfl (w.heap.size + 1 + 1) 0 [_, _] rfl rfl size_Int rfl (HC2.out.2.2.2.keep HBE.out) (Nat.le_refl _) rfl ?_
      intro W9 c9 g9
      go_wp2_with fail
      have hW := put_facts (g := w.heap.size + 1 + 1) (below_then HC2.out.1 HBE.out) (by omega) g9
      have ho := (HOE.out.away g9 (HC2.out.2.2.2.1)).base (b' := w.heap.size) (HC2.out.1.size)
      refine bodyPost_ret (resC rfl _ _ W9 (g := w.heap.size + 1 + 1) rfl (res_box 26 c9 dI HI.out.1 HI.out.2 size_Int)) rfl ?_
      exact ⟨_, rfl, ho, hW⟩
    · have hle : nv L1 ≤ nv L2 := by
        unfold cmpI at hR
        split at hR
        · omega
        · split at hR <;> omega
      have hr' : R < 0 := by omega
      clear hr
      go_wp2_with fail
      go_upto_region 6 with (go_at_call 111; (with_reducible refine CQ.out.mono ?_); rintro e3 WC ⟨rfl, hb3⟩; have HB3 := Lib.hid hb3; clear hb3)
      have HC2 : Hid (Below w.heap.size w WC ∧ Box WC w.heap.size [.bool ga, .slice A1 n1 c1] ∧ Box WC (w.heap.size + 1) [.bool gb, .slice A2 n2 c2] ∧ Box WC (w.heap.size + 1 + 1) [.bool false, .slice none 0 0]) := Lib.hid ⟨below_then HC.out.1 HB3.out, HC.out.2.1.keep HB3.out, HC.out.2.2.1.keep HB3.out, HC.out.2.2.2.keep HB3.out⟩
      have CM : Hid (∀ w1, Below WC.heap.size WC w1 → Calls Try.prog 112 #[.slice A2 n2 c2, .slice A1 n1 c1] w1 (RetN w1 (nv L2 - nv L1) (max K M + 1))) := Lib.hid fun w1 hb => (r1_Sub A2 A1 n2 n1 c2 c1 L2 L1 w1 ((HL2.out.1.digA.grow HB3.out).grow hb) ((HL1.out.1.digA.grow HB3.out).grow hb) dl2.1 dl1.1 dl2.2 dl1.2 (by omega) (by omega) hle).mono fun _ _ h => h.le (by omega)
      have HZ : Hid (sgn gb (nv L2 - nv L1) = x + y) := Lib.hid (by rw [← HL1.out.2.2.2, ← HL2.out.2.2.2]; cases ga <;> cases gb <;> simp [sgn] at hs ⊢ <;> omega)
      clear dl1 dl2 hk1 hk2 y1 y2 y3 y4 CQ hR hle hs hs' HB3 HC
      refine wp_region_grow7 (fun i => Nat.blt i 9) (fun _ => false) (fun w9 => Below WC.heap.size WC w9) (gT [.v (.pointer (some ⟨w.heap.size + 1, 0, none⟩)), .v (.bool gb), .v (.pointer (some ⟨w.heap.size + 1, 1, none⟩)), .v (.slice A2 n2 c2), .v (.pointer (some ⟨w.heap.size, 1, none⟩)), .v (.slice A1 n1 c1), .num (nv L2 - nv L1) (max K M + 1), .int (x + y) (max K M + 1), .int (x + y) (max K M + 1)]) (fun a b => Below a.heap.size a b) (dT WC.heap.size [.v (.pointer (some ⟨w.heap.size + 1, 0, none⟩)), .v (.bool gb), .v (.pointer (some ⟨w.heap.size + 1, 1, none⟩)), .v (.slice A2 n2 c2), .v (.pointer (some ⟨w.heap.size, 1, none⟩)), .v (.slice A1 n1 c1), .num (nv L2 - nv L1) (max K M + 1), .int (x + y) (max K M + 1), .int (x + y) (max K M + 1)]) (by kernel_rfl) (by kernel_rfl) (Below.refl _ _).drew (fun j x a b h1 h2 => ⟨below_then h1 h2.1, fun i _ v => dT_keep h2.1 i v, Below.refl _ _, fun w0 h => below_then h h2.1⟩) (fun j v w h => by cases h) ?_ (fun j o _ _ h => by cases h) ?_
      · refine ⟨?_, ?_, ?_, ?_, ?_, ?_, ?_, ?_, ?_, trivial⟩
        all_goals
          intro vs w9 hp hF
          have HP := Lib.hid hp
          obtain ⟨z1, z2⟩ := (HC2.out.2.1.keep hp).c2
          obtain ⟨z3, z4⟩ := (HC2.out.2.2.1.keep hp).c2
          clear hp
          simp [depsB, Region.binds, dT] at hF
          simp [stL, depsB, Region.binds, Act.put, hF]
        · (go_wp2_with fail; exact ⟨rfl, Below.refl _ _, nbx rfl⟩)
        · (go_wp2_with fail; exact ⟨rfl, Below.refl _ _, nbx rfl⟩)
        · (go_wp2_with fail; exact ⟨rfl, Below.refl _ _, nbx rfl⟩)
        · (go_wp2_with fail; exact ⟨rfl, Below.refl _ _, nbx rfl⟩)
        · (go_wp2_with fail; exact ⟨rfl, Below.refl _ _, nbx rfl⟩)
        · (go_wp2_with fail; exact ⟨rfl, Below.refl _ _, nbx rfl⟩)
        · go_wp2_with (go_at_call 112; (with_reducible refine (CM.out _ HP.out).mono ?_); intro e1 w1' h1; obtain ⟨v1, rfl, o1, hb1⟩ := h1.num (b := WC.heap.size) HP.out.size)
          exact ⟨o1, hb1, nbx rfl⟩
        · obtain ⟨e1, A', c', l', e6, o6, n6, m6, k6⟩ := hF
          have HN6 := Lib.hid n6
          clear n6
          simp only [e1, e6]
          go_wp2_with fail
          exact ⟨⟨_, A', c', l', rfl, o6, m6, k6, by rw [HN6.out]; exact HZ.out⟩, Below.refl _ _, nbx rfl⟩
        · obtain ⟨⟨g', A', c', l', e, h'⟩, -⟩ := hF
          have HH : Hid (IntO WC.heap.size w9 (.agg #[.bool g', .slice A' l'.length c']) (x + y) (max K M + 1)) := Lib.hid ⟨_, _, _, _, rfl, h'⟩
          clear h'
          simp only [e]
          go_wp2_with (go_at_call 103; (with_reducible refine (r2_Trim _ _ _ WC.heap.size _ HH.out.intB HKM.out).mono ?_); rintro e1 w1' ⟨v1, rfl, o1, hb1⟩)
          exact ⟨IntO.base o1 HP.out.size, hb1, nbx rfl⟩
      intro vs w9 hp hF hpr
      obtain ⟨gR, AR, cR, lR, eR, hR⟩ : IntO WC.heap.size w9 (vs 8) (x + y) (max K M + 1) := hF 8 (by decide) rfl
      have hR' : IntO WC.heap.size w9 (.agg #[.bool gR, .slice AR lR.length cR]) (x + y) (max K M + 1) := ⟨_, _, _, _, rfl, hR⟩
      have HBE := Lib.hid hp
      have HOE := Lib.hid hR'
      clear hF hpr hR hR' hp
      show wpList Try.prog _ _ [_] _ _
      simp [stL, Act.put, eR]
      refine wp_st rfl 26 _ _ rfl (w.heap.size + 1 + 1) 0 [_, _] rfl rfl size_Int rfl (HC2.out.2.2.2.keep HBE.out) (Nat.le_refl _) rfl ?_
      intro W9 c9 g9
      go_wp2_with fail
      have hW := put_facts (g := w.heap.size + 1 + 1) (below_then HC2.out.1 HBE.out) (by omega) g9
      have ho := (HOE.out.away g9 (HC2.out.2.2.2.1)).base (b' := w.heap.size) (HC2.out.1.size)
      refine bodyPost_ret (resC rfl _ _ W9 (g := w.heap.size + 1 + 1) rfl (res_box 26 c9 dI HI.out.1 HI.out.2 size_Int)) rfl ?_
      exact ⟨_, rfl, ho, hW⟩
set_option maxRecDepth 100000 in
set_option maxHeartbeats 4000000 in
theorem r2_Sub (v u : Value) (x y : Int) (K M b b' : Nat) (w : World) (h : IntB b w v x K) (h' : IntB b' w u y M) (h9 : K ≤ 1000000) (h8 : M ≤ 1000000) : Calls Try.prog 102 #[v, u] w (RetI w (x - y) (max K M + 1)) := by
  have HX := Lib.hid h
  have CN : Hid (∀ w1, Below w.heap.size w w1 → Calls Try.prog 109 #[u] w1 (RetI w1 (-y) M)) := Lib.hid fun w1 hb => r2_Neg u y M b' w1 (h'.grow hb) (by omega)
  obtain ⟨na, A, n, c, X, rfl, -⟩ := h
  obtain ⟨nb, B, m, d, Y, rfl, -⟩ := h'
  obtain ⟨dI, hI1, hI2⟩ := row_Int
  have HI := Lib.hid (And.intro hI1 hI2)
  clear hI1 hI2
  go_enter Try.func102, Try.ntmps102
  go_upto_region 1 with fail
  have hB0 : Below w.heap.size w (((w.alloc (.cells #[.bool na, .slice A n c] 26)).alloc (.cells #[.bool nb, .slice B m d] 26)).alloc (.cells #[.bool false, .slice none 0 0] 26)) := ((((Below.refl _ _).alloc (Nat.le_refl _) _).alloc (by simp; try omega) _).alloc (by simp; try omega) _)
  have bx0 : Box (((w.alloc (.cells #[.bool na, .slice A n c] 26)).alloc (.cells #[.bool nb, .slice B m d] 26)).alloc (.cells #[.bool false, .slice none 0 0] 26)) (w.heap.size) [.bool na, .slice A n c] := (((Box.new (by simp)).alloc _).alloc _)
  have bx1 : Box (((w.alloc (.cells #[.bool na, .slice A n c] 26)).alloc (.cells #[.bool nb, .slice B m d] 26)).alloc (.cells #[.bool false, .slice none 0 0] 26)) (w.heap.size + 1) [.bool nb, .slice B m d] := ((Box.new (by simp)).alloc _)
  have bx2 : Box (((w.alloc (.cells #[.bool na, .slice A n c] 26)).alloc (.cells #[.bool nb, .slice B m d] 26)).alloc (.cells #[.bool false, .slice none 0 0] 26)) (w.heap.size + 1 + 1) [.bool false, .slice none 0 0] := (Box.new (by simp))
  generalize ((w.alloc (.cells #[.bool na, .slice A n c] 26)).alloc (.cells #[.bool nb, .slice B m d] 26)).alloc (.cells #[.bool false, .slice none 0 0] 26) = wA at hB0 bx0 bx1 bx2 ⊢
  have HA := Lib.hid (And.intro hB0 (And.intro bx0 (And.intro bx1 bx2)))
  clear hB0 bx0 bx1 bx2
  refine wp_region_grow7 (fun i => Nat.blt i 4) (fun _ => false) (fun w9 => Below wA.heap.size wA w9) (gT [.v (.agg #[.bool na, .slice A n c]), .v (.agg #[.bool nb, .slice B m d]), .int (-y) M, .int (x - y) (max K M + 1)]) (fun a b => Below a.heap.size a b) (dT wA.heap.size [.v (.agg #[.bool na, .slice A n c]), .v (.agg #[.bool nb, .slice B m d]), .int (-y) M, .int (x - y) (max K M + 1)]) (by kernel_rfl) (by kernel_rfl) (Below.refl _ _).drew (fun j x a b h1 h2 => ⟨below_then h1 h2.1, fun i _ v => dT_keep h2.1 i v, Below.refl _ _, fun w0 h => below_then h h2.1⟩) (fun j v w h => by cases h) ?_ (fun j o _ _ h => by cases h) ?_
  · refine ⟨?_, ?_, ?_, ?_, trivial⟩
    all_goals
      intro vs w9 hp hF
      have HP := Lib.hid hp
      clear hp
      simp [depsB, Region.binds, dT] at hF
      simp [stL, depsB, Region.binds, Act.put, hF]
    · (obtain ⟨dI, hI1, hI2⟩ := row_Int; refine wp_ld rfl 26 _ rfl (w.heap.size) 0 rfl (HA.out.2.1.keep HP.out) [.bool na, .slice A n c] (fun j v h => by rcases j with _ | _ | _ | _ | j <;> simp at h ⊢ <;> exact h) dI hI1 hI2 size_Int ?_; go_wp2_with fail; exact ⟨rfl, Below.refl _ _, nbx rfl⟩)
    · (obtain ⟨dI, hI1, hI2⟩ := row_Int; refine wp_ld rfl 26 _ rfl (w.heap.size + 1) 0 rfl (HA.out.2.2.1.keep HP.out) [.bool nb, .slice B m d] (fun j v h => by rcases j with _ | _ | _ | _ | j <;> simp at h ⊢ <;> exact h) dI hI1 hI2 size_Int ?_; go_wp2_with fail; exact ⟨rfl, Below.refl _ _, nbx rfl⟩)
    · go_wp2_with (go_at_call 109; (with_reducible refine (CN.out _ (below_then HA.out.1 HP.out)).mono ?_); rintro e1 w1' ⟨v1, rfl, o1, hb1⟩)
      exact ⟨IntO.base o1 HP.out.size, hb1, nbx rfl⟩
    · obtain ⟨e0, g', A', c', l', e, h'⟩ := hF
      have HH : Hid (IntO wA.heap.size w9 (.agg #[.bool g', .slice A' l'.length c']) (-y) M) := Lib.hid ⟨_, _, _, _, rfl, h'⟩
      clear h'
      simp only [e0, e]
      go_wp2_with (go_at_call 74; (with_reducible refine (r2_Add _ _ x (-y) K M b wA.heap.size _ (HX.out.grow (below_then HA.out.1 HP.out)) HH.out.intB h9 h8).mono ?_); rintro e1 w1' ⟨v1, rfl, o1, hb1⟩)
      exact ⟨IntO.base o1 HP.out.size, hb1, nbx rfl⟩
  intro vs w9 hp hF hpr
  obtain ⟨gR, AR, cR, lR, eR, hR⟩ : IntO wA.heap.size w9 (vs 3) (x - y) (max K M + 1) := hF 3 (by decide) rfl
  have hR' : IntO wA.heap.size w9 (.agg #[.bool gR, .slice AR lR.length cR]) (x - y) (max K M + 1) := ⟨_, _, _, _, rfl, hR⟩
  have HBE := Lib.hid hp
  have HOE := Lib.hid hR'
  clear hF hpr hR hR' hp
  show wpList Try.prog _ _ [_] _ _
  simp [stL, Act.put, eR]
  refine wp_st rfl 26 _ _ rfl (w.heap.size + 1 + 1) 0 [_, _] rfl rfl size_Int rfl (HA.out.2.2.2.keep HBE.out) (Nat.le_refl _) rfl ?_
  intro W9 c9 g9
  go_wp2_with fail
  have hW := put_facts (g := w.heap.size + 1 + 1) (below_then HA.out.1 HBE.out) (by omega) g9
  have ho := (HOE.out.away g9 (HA.out.2.2.2.1)).base (b' := w.heap.size) (HA.out.1.size)
  refine bodyPost_ret (resC rfl _ _ W9 (g := w.heap.size + 1 + 1) rfl (res_box 26 c9 dI HI.out.1 HI.out.2 size_Int)) rfl ?_
  exact ⟨_, rfl, ho, hW⟩
set_option maxRecDepth 100000 in
set_option maxHeartbeats 4000000 in
theorem r2_Compare (v u : Value) (x y : Int) (K M b b' : Nat) (w : World) (h : IntB b w v x K) (h' : IntB b' w u y M) (h9 : K ≤ 1000000) (h8 : M ≤ 1000000) : Calls Try.prog 61 #[v, u] w fun e w' => e = .returned (.int .i64 (cmpI x y)) ∧ Below w.heap.size w w' := by
  have CS : Hid (∀ w1, Below w.heap.size w w1 → Calls Try.prog 102 #[v, u] w1 (RetI w1 (x - y) (max K M + 1))) := Lib.hid fun w1 hb => r2_Sub v u x y K M b b' w1 (h.grow hb) (h'.grow hb) h9 h8
  have HKM : Hid (max K M + 1 ≤ 10000000) := Lib.hid (by omega)
  have HE : Hid (cmpI (x - y) 0 = cmpI x y) := Lib.hid (by unfold cmpI; split <;> split <;> (try split) <;> (try split) <;> omega)
  rw [← HE.out]
  obtain ⟨na, A, n, c, X, rfl, -⟩ := h
  obtain ⟨nb, B, m, d, Y, rfl, -⟩ := h'
  obtain ⟨dI, hI1, hI2⟩ := row_Int
  have HI := Lib.hid (And.intro hI1 hI2)
  clear hI1 hI2
  go_enter Try.func61, Try.ntmps61
  go_upto_region 1 with fail
  have hB0 : Below w.heap.size w ((w.alloc (.cells #[.bool na, .slice A n c] 26)).alloc (.cells #[.bool nb, .slice B m d] 26)) := (((Below.refl _ _).alloc (Nat.le_refl _) _).alloc (by simp; try omega) _)
  have bx0 : Box ((w.alloc (.cells #[.bool na, .slice A n c] 26)).alloc (.cells #[.bool nb, .slice B m d] 26)) (w.heap.size) [.bool na, .slice A n c] := ((Box.new (by simp)).alloc _)
  have bx1 : Box ((w.alloc (.cells #[.bool na, .slice A n c] 26)).alloc (.cells #[.bool nb, .slice B m d] 26)) (w.heap.size + 1) [.bool nb, .slice B m d] := (Box.new (by simp))
  generalize (w.alloc (.cells #[.bool na, .slice A n c] 26)).alloc (.cells #[.bool nb, .slice B m d] 26) = wA at hB0 bx0 bx1 ⊢
  have HA := Lib.hid (And.intro hB0 (And.intro bx0 bx1))
  clear hB0 bx0 bx1
  go_wp2_with (first
    | ((with_reducible show wpList _ _ _ (Oper.mk (some 5) (.load 26 _) _ _ _ _ :: _) _ _); refine wp_ld rfl 26 _ rfl (w.heap.size) 0 rfl (HA.out.2.1) [.bool na, .slice A n c] (fun j v h => by rcases j with _ | _ | _ | j <;> simp at h ⊢ <;> exact h) dI HI.out.1 HI.out.2 size_Int ?_)
    | ((with_reducible show wpList _ _ _ (Oper.mk (some 6) (.load 26 _) _ _ _ _ :: _) _ _); refine wp_ld rfl 26 _ rfl (w.heap.size + 1) 0 rfl (HA.out.2.2) [.bool nb, .slice B m d] (fun j v h => by rcases j with _ | _ | _ | j <;> simp at h ⊢ <;> exact h) dI HI.out.1 HI.out.2 size_Int ?_)
    | (go_at_call 102; (with_reducible refine (CS.out _ HA.out.1).mono ?_); rintro e1 w1 ⟨v1, rfl, hi, hb1⟩; have HO := Lib.hid hi; obtain ⟨ng, A1, c1, l1, rfl, -⟩ := hi; have HB1 := Lib.hid hb1; clear hb1)
    | (go_at_call 101; (with_reducible refine (r2_Sign _ _ _ wA.heap.size _ HO.out.intB HKM.out).mono ?_); rintro e2 w2 ⟨rfl, hb2⟩; have HB2 := Lib.hid hb2; clear hb2))
  go_ret
  exact ⟨rfl, below_then (below_then HA.out.1 HB1.out) HB2.out⟩
end Go.Proofs.Ytmdfgidejdiiiaa
