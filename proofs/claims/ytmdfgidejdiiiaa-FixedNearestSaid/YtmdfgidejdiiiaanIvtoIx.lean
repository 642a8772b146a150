/- Several texts in one: Iv Iw Ix. -/
import Derived.Test.YtmdfgidejdiiiaanIu
import Derived.Test.YtmdfgidejdiiiaanFztoZn
set_option linter.unusedVariables false
set_option linter.unusedSimpArgs false
section
namespace Go.Proofs.Ytmdfgidejdiiiaa
open Go.RowKit
def RetRD (w : World) (x y : Int) (K : Nat) (e : Ending) (w' : World) : Prop := ∃ v p q, e = .returned (.tuple #[v, .int .i64 0]) ∧ RatN w.heap.size w' v p q K ∧ 0 < q ∧ (x : Rat) / (y : Rat) = (p : Rat) / (q : Rat) ∧ (y = 1 → q = 1) ∧ Below w.heap.size w w'
set_option maxRecDepth 100000 in
set_option maxHeartbeats 4000000 in
theorem r3_DivE (v u : Value) (x1 y1 x2 y2 : Int) (K M : Nat) (w : World) (hv : IsRat v) (hu : IsRat u) (C1 : ∀ w1, Below w.heap.size w w1 → Calls Try.prog 60 #[v] w1 (RetPT w.heap.size w1 x1 y1 K)) (C2 : ∀ w1, Below w.heap.size w w1 → Calls Try.prog 60 #[u] w1 (RetPT w.heap.size w1 x2 y2 M)) (hK : 1 ≤ K) (hM : 1 ≤ M) (h9 : K ≤ 400000) (h8 : M ≤ 400000) (h0 : x2 ≠ 0) : Calls Try.prog 63 #[v, u] w (RetRD w (x1 * y2) (y1 * x2) (K + M)) := by
  obtain ⟨sa, A, na, ca, B, ma, da, rfl⟩ := hv
  obtain ⟨sb, A2, nb, cb, B2, mb, db, rfl⟩ := hu
  have CP1 := Lib.hid C1
  have CP2 := Lib.hid C2
  have h7 : K + M + 1 ≤ 1000000 := by omega
  have h9 : K ≤ 1000000 := by omega
  have h8 : M ≤ 1000000 := by omega
  clear C1 C2
  obtain ⟨dI, hI1, hI2⟩ := row_Int
  have HI := Lib.hid (And.intro hI1 hI2)
  clear hI1 hI2
  obtain ⟨dsR, hR1, hR2⟩ := row_Rat
  have HRR := Lib.hid (And.intro hR1 hR2)
  clear hR1 hR2
  go_enter Try.func63, Try.ntmps63
  go_upto_region 1 with fail
  have hB0 : Below w.heap.size w (((w.alloc (.cells #[.bool sa, .slice A na ca, .slice B ma da] 28)).alloc (.cells #[.bool sb, .slice A2 nb cb, .slice B2 mb db] 28)).alloc (.cells #[.bool false, .slice none 0 0, .slice none 0 0] 28)) := ((((Below.refl _ _).alloc (Nat.le_refl _) _).alloc (by simp; try omega) _).alloc (by simp; try omega) _)
  have bx0 : Box (((w.alloc (.cells #[.bool sa, .slice A na ca, .slice B ma da] 28)).alloc (.cells #[.bool sb, .slice A2 nb cb, .slice B2 mb db] 28)).alloc (.cells #[.bool false, .slice none 0 0, .slice none 0 0] 28)) (w.heap.size) [.bool sa, .slice A na ca, .slice B ma da] := (((Box.new (by simp)).alloc _).alloc _)
  have bx1 : Box (((w.alloc (.cells #[.bool sa, .slice A na ca, .slice B ma da] 28)).alloc (.cells #[.bool sb, .slice A2 nb cb, .slice B2 mb db] 28)).alloc (.cells #[.bool false, .slice none 0 0, .slice none 0 0] 28)) (w.heap.size + 1) [.bool sb, .slice A2 nb cb, .slice B2 mb db] := ((Box.new (by simp)).alloc _)
  have bx2 : Box (((w.alloc (.cells #[.bool sa, .slice A na ca, .slice B ma da] 28)).alloc (.cells #[.bool sb, .slice A2 nb cb, .slice B2 mb db] 28)).alloc (.cells #[.bool false, .slice none 0 0, .slice none 0 0] 28)) (w.heap.size + 1 + 1) [.bool false, .slice none 0 0, .slice none 0 0] := (Box.new (by simp))
  generalize ((w.alloc (.cells #[.bool sa, .slice A na ca, .slice B ma da] 28)).alloc (.cells #[.bool sb, .slice A2 nb cb, .slice B2 mb db] 28)).alloc (.cells #[.bool false, .slice none 0 0, .slice none 0 0] 28) = wA at hB0 bx0 bx1 bx2 ⊢
  have HA := Lib.hid (And.intro hB0 (And.intro bx0 (And.intro bx1 bx2)))
  clear hB0 bx0 bx1 bx2
  go_upto_region 2 with (first
    | ((with_reducible show wpList _ _ _ (Oper.mk _ (.load 28 _) _ _ _ _ :: _) _ _); refine wp_ld rfl 28 _ rfl (w.heap.size) 0 rfl (HA.out.2.1) [.bool sa, .slice A na ca, .slice B ma da] (fun j v h => by rcases j with _ | _ | _ | j <;> simp at h ⊢ <;> exact h) dsR HRR.out.1 HRR.out.2 size_Rat ?_)
    | (go_at_call 60; (with_reducible refine (CP1.out _ HA.out.1).mono ?_); rintro e1 w1 ⟨g11, A11, n11, c11, g21, A21, n21, c21, rfl, hx, hy, hb⟩; have HP1 := Lib.hid (And.intro hx hy); have HB1 := Lib.hid hb; clear hx hy hb)
    | ((with_reducible show wpList _ _ _ (Oper.mk none (.store 26 (.tmp 6) _) _ _ _ _ :: _) _ _); refine wp_st rfl 26 _ _ rfl (w1.heap.size) 0 [_, _] rfl rfl size_Int rfl ((Box.new rfl).alloc _) (Nat.le_refl _) rfl ?_; intro Wa1 da1 qa1)
    | ((with_reducible show wpList _ _ _ (Oper.mk none (.store 26 (.tmp 7) _) _ _ _ _ :: _) _ _); refine wp_st rfl 26 _ _ rfl (w1.heap.size + 1) 0 [_, _] rfl rfl size_Int rfl ((Box.new (by simp)).grown qa1 (fun e => by injection e with e; omega)) (Nat.le_refl _) rfl ?_; intro Wb1 db1 qb1))
  have hbk : Below w1.heap.size w1 Wb1 := put_facts (put_facts (((Below.refl _ _).alloc (Nat.le_refl _) _).alloc (by simp) _) (Nat.le_refl _) qa1) (by omega) qb1
  have hxk : Box Wb1 w1.heap.size [.bool g11, .slice A11 n11 c11] := da1.grown qb1 (fun e => by injection e with e; omega)
  have hyk : Box Wb1 (w1.heap.size + 1) [.bool g21, .slice A21 n21 c21] := db1
  have hb1 : Below wA.heap.size wA Wb1 := below_then HB1.out hbk
  have HX1 : Hid (IntB w.heap.size Wb1 (.agg #[.bool g11, .slice A11 n11 c11]) x1 K) := Lib.hid (HP1.out.1.grow hbk)
  have HY1 : Hid (IntB w.heap.size Wb1 (.agg #[.bool g21, .slice A21 n21 c21]) y1 K) := Lib.hid (HP1.out.2.grow hbk)
  have HG1 : Hid (wA.heap.size ≤ w1.heap.size) := Lib.hid HB1.out.size
  obtain ⟨G1, hg⟩ : ∃ n, w1.heap.size = n := ⟨_, rfl⟩
  have hw' := Wb1.heap.size
  clear hw'
  rw [hg] at hxk hyk HG1 ⊢
  have HH1 := Lib.hid (And.intro hxk hyk)
  clear hxk hyk hbk hg da1 db1 qa1 qb1 HP1 HB1
  have HB1 := Lib.hid hb1
  clear hb1
  go_upto_region 3 with (first
    | ((with_reducible show wpList _ _ _ (Oper.mk _ (.load 28 _) _ _ _ _ :: _) _ _); refine wp_ld rfl 28 _ rfl (w.heap.size + 1) 0 rfl (HA.out.2.2.1.keep HB1.out) [.bool sb, .slice A2 nb cb, .slice B2 mb db] (fun j v h => by rcases j with _ | _ | _ | j <;> simp at h ⊢ <;> exact h) dsR HRR.out.1 HRR.out.2 size_Rat ?_)
    | (go_at_call 60; (with_reducible refine (CP2.out _ (below_then HA.out.1 HB1.out)).mono ?_); rintro e2 w2 ⟨g12, A12, n12, c12, g22, A22, n22, c22, rfl, hx, hy, hb⟩; have HP2 := Lib.hid (And.intro hx hy); have HB2 := Lib.hid hb; clear hx hy hb)
    | ((with_reducible show wpList _ _ _ (Oper.mk none (.store 26 (.tmp 8) _) _ _ _ _ :: _) _ _); refine wp_st rfl 26 _ _ rfl (w2.heap.size) 0 [_, _] rfl rfl size_Int rfl ((Box.new rfl).alloc _) (Nat.le_refl _) rfl ?_; intro Wa2 da2 qa2)
    | ((with_reducible show wpList _ _ _ (Oper.mk none (.store 26 (.tmp 9) _) _ _ _ _ :: _) _ _); refine wp_st rfl 26 _ _ rfl (w2.heap.size + 1) 0 [_, _] rfl rfl size_Int rfl ((Box.new (by simp)).grown qa2 (fun e => by injection e with e; omega)) (Nat.le_refl _) rfl ?_; intro Wb2 db2 qb2))
  have hbk : Below w2.heap.size w2 Wb2 := put_facts (put_facts (((Below.refl _ _).alloc (Nat.le_refl _) _).alloc (by simp) _) (Nat.le_refl _) qa2) (by omega) qb2
  have hxk : Box Wb2 w2.heap.size [.bool g12, .slice A12 n12 c12] := da2.grown qb2 (fun e => by injection e with e; omega)
  have hyk : Box Wb2 (w2.heap.size + 1) [.bool g22, .slice A22 n22 c22] := db2
  have hb2 : Below Wb1.heap.size Wb1 Wb2 := below_then HB2.out hbk
  have HX2 : Hid (IntB w.heap.size Wb2 (.agg #[.bool g12, .slice A12 n12 c12]) x2 M) := Lib.hid (HP2.out.1.grow hbk)
  have HY2 : Hid (IntB w.heap.size Wb2 (.agg #[.bool g22, .slice A22 n22 c22]) y2 M) := Lib.hid (HP2.out.2.grow hbk)
  have HG2 : Hid (Wb1.heap.size ≤ w2.heap.size) := Lib.hid HB2.out.size
  obtain ⟨G2, hg⟩ : ∃ n, w2.heap.size = n := ⟨_, rfl⟩
  have hw' := Wb2.heap.size
  clear hw'
  rw [hg] at hxk hyk HG2 ⊢
  have HH2 := Lib.hid (And.intro hxk hyk)
  clear hxk hyk hbk hg da2 db2 qa2 qb2 HP2 HB2
  have HB2 := Lib.hid (below_then HB1.out hb2)
  have HE1 : Hid (Box Wb2 G1 [.bool g11, .slice A11 n11 c11] ∧ Box Wb2 (G1 + 1) [.bool g21, .slice A21 n21 c21]) := Lib.hid ⟨HH1.out.1.keep hb2, HH1.out.2.keep hb2⟩
  have HI1 := Lib.hid (HX1.out.grow hb2)
  have HJ1 := Lib.hid (HY1.out.grow hb2)
  clear hb2 CP1 CP2 HB1 HX1 HY1 HH1
  obtain ⟨sy, hsy⟩ : ∃ s, cmpI x2 0 = s := ⟨_, rfl⟩
  have hs4 : sy ≠ 0 := hsy ▸ fun e => h0 (cmpI_eq e)
  have hs5 : (sy == 0) = false := by simpa using hs4
  have hs6 : decide (sy = 0) = false := decide_eq_false hs4
  have CS : Hid (Calls Try.prog 101 #[.agg #[.bool g12, .slice A12 n12 c12]] Wb2 fun e w' => e = .returned (.int .i64 sy) ∧ Below Wb2.heap.size Wb2 w') := Lib.hid (by
    have h := r2_Sign _ x2 M _ Wb2 HX2.out (by omega)
    rw [hsy] at h
    exact h)
  clear hsy h0
  go_upto_region 5 with (first
    | ((with_reducible show wpList _ _ _ (Oper.mk (some 20) (.load 26 _) _ _ _ _ :: _) _ _); refine wp_ld rfl 26 _ rfl (G2) 0 rfl (HH2.out.1) [.bool g12, .slice A12 n12 c12] (fun j v h => by rcases j with _ | _ | _ | j <;> simp at h ⊢ <;> exact h) dI HI.out.1 HI.out.2 size_Int ?_)
    | (go_at_call 101; (with_reducible refine (CS.out).mono ?_); rintro e5 w5 ⟨rfl, hb5⟩; have HB5 := Lib.hid hb5; clear hb5))
  have hb5 := HB5.out
  have HB6 := Lib.hid (below_then HB2.out hb5)
  have HF1 : Hid (Box w5 G1 [.bool g11, .slice A11 n11 c11] ∧ Box w5 (G1 + 1) [.bool g21, .slice A21 n21 c21]) := Lib.hid ⟨HE1.out.1.keep hb5, HE1.out.2.keep hb5⟩
  have HF2 : Hid (Box w5 G2 [.bool g12, .slice A12 n12 c12] ∧ Box w5 (G2 + 1) [.bool g22, .slice A22 n22 c22]) := Lib.hid ⟨HH2.out.1.keep hb5, HH2.out.2.keep hb5⟩
  have HK1 := Lib.hid (HI1.out.grow hb5)
  have HL1 := Lib.hid (HJ1.out.grow hb5)
  have HK2 := Lib.hid (HX2.out.grow hb5)
  have HL2 := Lib.hid (HY2.out.grow hb5)
  clear hb5 HB5 HB2 HE1 HH2 HI1 HJ1 HX2 HY2 CS hs4 hs5 hs6
  have HB2 := HB6
  have HE1 := HF1
  have HH2 := HF2
  have HI1 := HK1
  have HJ1 := HL1
  have HX2 := HK2
  have HY2 := HL2
  clear HB6 HF1 HF2 HK1 HL1 HK2 HL2
  have CM1 : Hid (∀ w1, Below w5.heap.size w5 w1 → Calls Try.prog 62 #[.agg #[.bool g11, .slice A11 n11 c11], .agg #[.bool g22, .slice A22 n22 c22]] w1 (RetI w1 (x1 * y2) (K + M))) := Lib.hid fun w1 hb => r2_Mul _ _ x1 y2 K M _ _ w1 (HI1.out.grow hb) (HY2.out.grow hb) h9 h8
  have CM2 : Hid (∀ w1, Below w5.heap.size w5 w1 → Calls Try.prog 62 #[.agg #[.bool g21, .slice A21 n21 c21], .agg #[.bool g12, .slice A12 n12 c12]] w1 (RetI w1 (y1 * x2) (K + M))) := Lib.hid fun w1 hb => r2_Mul _ _ y1 x2 K M _ _ w1 (HJ1.out.grow hb) (HX2.out.grow hb) h9 h8
  have CR : Hid (∀ v' u' w1, IntO w5.heap.size w1 v' (x1 * y2) (K + M) → IntO w5.heap.size w1 u' (y1 * x2) (K + M) → Calls Try.prog 73 #[v', u'] w1 (RetRN w1 (x1 * y2) (y1 * x2) (K + M))) := Lib.hid fun v' u' w1 h1 h2 => (r3_reduce v' u' _ _ _ _ w.heap.size w.heap.size w1 h1.intB h2.intB (by omega) (by omega) (by omega) (by omega)).mono fun _ _ h => h.le (by omega)
  refine wp_region_grow7 (fun i => Nat.blt i 7) (fun _ => false) (fun w9 => Below w5.heap.size w5 w9) (gT [.v (.agg #[.bool g11, .slice A11 n11 c11]), .v (.agg #[.bool g22, .slice A22 n22 c22]), .int (x1 * y2) (K + M), .v (.agg #[.bool g21, .slice A21 n21 c21]), .v (.agg #[.bool g12, .slice A12 n12 c12]), .int (y1 * x2) (K + M), .gen (RN (x1 * y2) (y1 * x2) (K + M)) RN_keep]) (fun a b => Below a.heap.size a b) (dT w5.heap.size [.v (.agg #[.bool g11, .slice A11 n11 c11]), .v (.agg #[.bool g22, .slice A22 n22 c22]), .int (x1 * y2) (K + M), .v (.agg #[.bool g21, .slice A21 n21 c21]), .v (.agg #[.bool g12, .slice A12 n12 c12]), .int (y1 * x2) (K + M), .gen (RN (x1 * y2) (y1 * x2) (K + M)) RN_keep]) (by kernel_rfl) (by kernel_rfl) (Below.refl _ _).drew (fun j x a b h1 h2 => ⟨below_then h1 h2.1, fun i _ v => dT_keep h2.1 i v, Below.refl _ _, fun w0 h => below_then h h2.1⟩) (fun j v w h => by cases h) ?_ (fun j o _ _ h => by cases h) ?_
  · refine ⟨?_, ?_, ?_, ?_, ?_, ?_, ?_, trivial⟩
    all_goals
      intro vs w9 hp hF
      have HP := Lib.hid hp
      clear hp
      simp [depsB, Region.binds, dT] at hF
      simp [stL, depsB, Region.binds, Act.put, hF]
    · (obtain ⟨dI, hI1, hI2⟩ := row_Int; refine wp_ld rfl 26 _ rfl (G1) 0 rfl (HE1.out.1.keep HP.out) [.bool g11, .slice A11 n11 c11] (fun j v h => by rcases j with _ | _ | _ | _ | j <;> simp at h ⊢ <;> exact h) dI hI1 hI2 size_Int ?_; go_wp2_with fail; exact ⟨rfl, Below.refl _ _, nbx rfl⟩)
    · (obtain ⟨dI, hI1, hI2⟩ := row_Int; refine wp_ld rfl 26 _ rfl (G2 + 1) 0 rfl (HH2.out.2.keep HP.out) [.bool g22, .slice A22 n22 c22] (fun j v h => by rcases j with _ | _ | _ | _ | j <;> simp at h ⊢ <;> exact h) dI hI1 hI2 size_Int ?_; go_wp2_with fail; exact ⟨rfl, Below.refl _ _, nbx rfl⟩)
    · go_wp2_with (go_at_call 62; (with_reducible refine (CM1.out _ HP.out).mono ?_); rintro e1 w1' ⟨v1, rfl, o1, hb1⟩)
      exact ⟨IntO.base o1 HP.out.size, hb1, nbx rfl⟩
    · (obtain ⟨dI, hI1, hI2⟩ := row_Int; refine wp_ld rfl 26 _ rfl (G1 + 1) 0 rfl (HE1.out.2.keep HP.out) [.bool g21, .slice A21 n21 c21] (fun j v h => by rcases j with _ | _ | _ | _ | j <;> simp at h ⊢ <;> exact h) dI hI1 hI2 size_Int ?_; go_wp2_with fail; exact ⟨rfl, Below.refl _ _, nbx rfl⟩)
    · (obtain ⟨dI, hI1, hI2⟩ := row_Int; refine wp_ld rfl 26 _ rfl (G2) 0 rfl (HH2.out.1.keep HP.out) [.bool g12, .slice A12 n12 c12] (fun j v h => by rcases j with _ | _ | _ | _ | j <;> simp at h ⊢ <;> exact h) dI hI1 hI2 size_Int ?_; go_wp2_with fail; exact ⟨rfl, Below.refl _ _, nbx rfl⟩)
    · go_wp2_with (go_at_call 62; (with_reducible refine (CM2.out _ HP.out).mono ?_); rintro e1 w1' ⟨v1, rfl, o1, hb1⟩)
      exact ⟨IntO.base o1 HP.out.size, hb1, nbx rfl⟩
    · obtain ⟨ha, hb⟩ := hF
      obtain ⟨ga, Aa, ca', la, ea, ha⟩ := ha
      obtain ⟨gb, Ab, cb', lb, eb, hb⟩ := hb
      have HA2 : Hid (IntO w5.heap.size w9 (.agg #[.bool ga, .slice Aa la.length ca']) (x1 * y2) (K + M)) := Lib.hid ⟨_, _, _, _, rfl, ha⟩
      have HB2' : Hid (IntO w5.heap.size w9 (.agg #[.bool gb, .slice Ab lb.length cb']) (y1 * x2) (K + M)) := Lib.hid ⟨_, _, _, _, rfl, hb⟩
      clear ha hb
      simp only [ea, eb]
      go_wp2_with (go_at_call 73; (with_reducible refine (CR.out _ _ _ HA2.out HB2'.out).mono ?_); rintro e1 w1' ⟨v1, pp, qq, rfl, hn, hq, hz, h1, hb1⟩)
      exact ⟨⟨pp, qq, hn.base HP.out.size, hq, hz, h1⟩, hb1, nbx rfl⟩
  intro vs w9 hp hF hpr
  obtain ⟨pp, qq, hn, hr⟩ : RN (x1 * y2) (y1 * x2) (K + M) w5.heap.size w9 (vs 6) := hF 6 (by decide) rfl
  have HN := Lib.hid hn
  obtain ⟨g7, A7, n7, c7, B7, m7, d7, e9⟩ := hn.form
  rw [e9] at HN
  have HR2 := Lib.hid hr
  have HBE := Lib.hid hp
  clear hF hpr hn hr hp
  show wpList Try.prog _ _ [_, _] _ _
  simp [stL, Act.put, e9]
  refine wp_st rfl 28 _ _ rfl (w.heap.size + 1 + 1) 0 [_, _, _] rfl rfl size_Rat rfl ((HA.out.2.2.2.keep HB2.out).keep HBE.out) (Nat.le_refl _) rfl ?_
  intro W9 c9 g9
  go_wp2_with fail
  have hb := below_then HB2.out HBE.out
  have hW := put_facts (g := w.heap.size + 1 + 1) (below_then HA.out.1 hb) (by omega) g9
  have hn := (HN.out.away g9 (Nat.lt_of_lt_of_le HA.out.2.2.2.1 HB2.out.size)).base (b' := w.heap.size) (below_then HA.out.1 HB2.out).size
  refine bodyPost_ret (resCT rfl _ _ W9 (g := w.heap.size + 1 + 1) rfl (res_box 28 c9 dsR HRR.out.1 HRR.out.2 size_Rat)) rfl ?_
  exact ⟨_, pp, qq, rfl, hn, HR2.out.1, HR2.out.2.1, HR2.out.2.2, hW⟩
end Go.Proofs.Ytmdfgidejdiiiaa
end
section
namespace Go.Proofs.Ytmdfgidejdiiiaa
open Go.RowKit
theorem pow_bp2 {k : Nat} (h : k ≤ 30) : (2 : Int) ^ k < bp 2 := by
  have h1 := pow_up (s := k) (by omega)
  have h2 : bp 2 = 18446744073709551616 := by rw [bp_succ, bp_one]; rfl
  omega
def PowAt (b G : Nat) (z : Int) (w : World) : Prop := ∃ g A n c B m d, Box w G [.bool g, .slice A n c, .slice B m d] ∧ RatN b w (.agg #[.bool g, .slice A n c, .slice B m d]) z 1 2
set_option maxRecDepth 100000 in
set_option maxHeartbeats 4000000 in
theorem r21_power (n : Nat) (w : World) (hn : n ≤ 30) : Calls Try.prog 52 #[.int .i64 n] w fun e w' => ∃ v, e = .returned v ∧ RatN w.heap.size w' v (2 ^ n) 1 2 ∧ Below w.heap.size w w' := by
  have CO : Hid (∀ w1, Calls Try.prog 38 #[.int .i64 1] w1 fun e w' => ∃ v, e = .returned v ∧ RatN w1.heap.size w' v 1 1 2 ∧ Below w1.heap.size w1 w') := Lib.hid fun w1 => r3_OfN 1 w1 (by unfold I64; omega)
  have CA : Hid (∀ v p b w1, RatN b w1 v p 1 2 → b ≤ w1.heap.size → Calls Try.prog 28 #[v, v] w1 fun e w' => ∃ v', e = .returned v' ∧ RatN w1.heap.size w' v' (p + p) 1 5 ∧ Below w1.heap.size w1 w') := Lib.hid fun v p b w1 h hb => r3_AddN v v p p 2 2 b b w1 h h hb hb (by decide) (by decide) (by decide) (by decide)
  obtain ⟨dsR, hR1, hR2⟩ := row_Rat
  have HRR := Lib.hid (And.intro hR1 hR2)
  clear hR1 hR2
  go_enter Try.func52, Try.ntmps52
  go_upto_region 1 with fail
  have hB0 : Below w.heap.size w (w.alloc (.cells #[.bool false, .slice none 0 0, .slice none 0 0] 28)) := ((Below.refl _ _).alloc (Nat.le_refl _) _)
  have bx0 : Box (w.alloc (.cells #[.bool false, .slice none 0 0, .slice none 0 0] 28)) (w.heap.size) [.bool false, .slice none 0 0, .slice none 0 0] := (Box.new (by simp))
  generalize w.alloc (.cells #[.bool false, .slice none 0 0, .slice none 0 0] 28) = wA at hB0 bx0 ⊢
  have HA := Lib.hid (And.intro hB0 bx0)
  clear hB0 bx0
  go_upto_region 2 with (first
    | (go_at_call 38; (with_reducible refine (CO.out _).mono ?_); rintro e1 w1 ⟨v1, rfl, hq, hb1⟩; have HQ1 := Lib.hid hq; obtain ⟨g1, A1, n1, c1, B1, m1, d1, rfl⟩ := hq.form; have HB1 := Lib.hid hb1; clear hq hb1)
    | ((with_reducible show wpList _ _ _ (Oper.mk none (.store 28 _ _) _ _ _ _ :: _) _ _); refine wp_st rfl 28 _ _ rfl (w1.heap.size) 0 [_, _, _] rfl rfl size_Rat rfl (Box.new rfl) (Nat.le_refl _) rfl ?_; intro W2 c2 q2))
  have hb12 : Below w1.heap.size w1 W2 := put_facts ((Below.refl _ _).alloc (Nat.le_refl _) _) (Nat.le_refl _) q2
  have HB2 := Lib.hid (below_then (below_then HA.out.1 HB1.out) hb12)
  have HP2 : Hid (PowAt wA.heap.size w1.heap.size 1 W2) := Lib.hid ⟨g1, A1, n1, c1, B1, m1, d1, c2, HQ1.out.grow hb12⟩
  have HR2 : Hid (Box W2 w.heap.size [.bool false, .slice none 0 0, .slice none 0 0]) := Lib.hid ((HA.out.2.keep HB1.out).keep hb12)
  have HG : Hid (w.heap.size < wA.heap.size ∧ wA.heap.size ≤ w1.heap.size) := Lib.hid ⟨HA.out.2.1, HB1.out.size⟩
  obtain ⟨G, hG⟩ : ∃ g, w1.heap.size = g := ⟨_, rfl⟩
  rw [hG] at HP2 HG ⊢
  clear hb12 c2 q2 hG HQ1 HB1
  go_wp2_with fail
  go_loopw [4] (fun i wr => ∃ k : Nat, k ≤ n ∧ i = .int .i64 k ∧ Hid (PowAt wA.heap.size G (2 ^ k) wr) ∧ Hid (Below w.heap.size w wr) ∧ Hid (Box wr w.heap.size [.bool false, .slice none 0 0, .slice none 0 0])) (fun i _ => n - (intOf i).toNat)
  case atStart => exact ⟨0, Nat.zero_le _, rfl, HP2, HB2, HR2⟩
  case round =>
    obtain ⟨k, hk, rfl, HPK, HBK, HRK⟩ := hrel
    obtain ⟨g, A, l, c, B, m, d, hbx, hv⟩ := HPK.out
    have HBX := Lib.hid hbx
    have HV := Lib.hid hv
    have x0 : (0 : Int) ≤ (k : Int) := by omega
    clear hbx hv
    by_cases hlt : k < n
    · have x1 : (k : Int) < (n : Int) := by omega
      have HK1 : Hid (k + 1 ≤ n ∧ k < n ∧ k + 1 ≤ 30) := Lib.hid ⟨by omega, by omega, by omega⟩
      have hsz : wA.heap.size ≤ wr.heap.size := Nat.le_trans (Nat.le_trans HG.out.2 (Nat.le_of_lt HBX.out.1)) (Nat.le_refl _)
      have CA1 := Lib.hid (CA.out _ _ _ _ HV.out hsz)
      clear hlt hsz hk
      go_wp2_with (first
        | ((with_reducible show wpList _ _ _ (Oper.mk _ (.load 28 _) _ _ _ _ :: _) _ _); refine wp_ld rfl 28 _ rfl (G) 0 rfl (HBX.out) [.bool g, .slice A l c, .slice B m d] (fun j v h => by rcases j with _ | _ | _ | j <;> simp at h ⊢ <;> exact h) dsR HRR.out.1 HRR.out.2 size_Rat ?_)
        | (go_at_call 28; (with_reducible refine CA1.out.mono ?_); rintro e5 w5 ⟨v5, rfl, hq, hb5⟩; have HQ5 := Lib.hid hq; obtain ⟨g5, A5, n5, c5, B5, m5, d5, rfl⟩ := hq.form; have HB5 := Lib.hid hb5; clear hq hb5)
        | ((with_reducible show wpList _ _ _ (Oper.mk none (.store 28 _ _) _ _ _ _ :: _) _ _); refine wp_st rfl 28 _ _ rfl (G) 0 [_, _, _] rfl rfl size_Rat rfl (HBX.out.keep HB5.out) (Nat.le_refl _) rfl ?_; intro W6 c6 q6))
      go_roundw
      case rel =>
        have hG := HG.out
        have hlt := HBX.out.1
        have e2 : (2 : Int) ^ k + 2 ^ k = 2 ^ (k + 1) := by rw [Int.pow_succ]; omega
        have hq := (HQ5.out.away q6 hlt).base (b' := wA.heap.size) (by omega)
        rw [e2] at hq
        have hp := pow_bp2 HK1.out.2.2
        have hp0 := pow2_pos (k + 1)
        have hb2 : (1 : Int) < bp 2 := by rw [bp_succ, bp_one]; decide
        exact ⟨k + 1, HK1.out.1, by go_num, Lib.hid ⟨g5, A5, n5, c5, B5, m5, d5, c6, hq.short hp (by omega) hb2⟩, Lib.hid (put_facts (below_then HBK.out HB5.out) (by omega) q6), Lib.hid ((HRK.out.keep HB5.out).grown q6 (fun e => by injection e with e; omega))⟩
      case measure => have := HK1.out.2; simp [intOf]; omega
    · obtain rfl : k = n := by omega
      have x1 : (k : Int) ≤ (k : Int) := by omega
      go_wp2_with (first
        | ((with_reducible show wpList _ _ _ (Oper.mk _ (.load 28 _) _ _ _ _ :: _) _ _); refine wp_ld rfl 28 _ rfl (G) 0 rfl (HBX.out) [.bool g, .slice A l c, .slice B m d] (fun j v h => by rcases j with _ | _ | _ | j <;> simp at h ⊢ <;> exact h) dsR HRR.out.1 HRR.out.2 size_Rat ?_)
        | ((with_reducible show wpList _ _ _ (Oper.mk none (.store 28 _ _) _ _ _ _ :: _) _ _); refine wp_st rfl 28 _ _ rfl (w.heap.size) 0 [_, _, _] rfl rfl size_Rat rfl (HRK.out) (Nat.le_refl _) rfl ?_; intro W9 c9 g9))
      have hG := HG.out
      have hW := put_facts (g := w.heap.size) HBK.out (Nat.le_refl _) g9
      have hq := (HV.out.away g9 hG.1).base (b' := w.heap.size) (by omega)
      refine bodyPost_ret (resC rfl _ _ W9 (g := w.heap.size) rfl (res_box 28 c9 dsR HRR.out.1 HRR.out.2 size_Rat)) rfl ?_
      exact ⟨_, rfl, hq, hW⟩
end Go.Proofs.Ytmdfgidejdiiiaa
end
section
namespace Go.Proofs.Ytmdfgidejdiiiaa
open Go.RowKit
theorem RatN.keptT {b g : Nat} {w w' : World} {v : Value} {p q : Int} {K : Nat} {t : TypeId} (h : RatN b w v p q K) (hg : w.grownBy w' (some g)) (ht : TyB w g t) (hn : t ≠ 77) : RatN b w' v p q K := by
  obtain ⟨ng, A, c, l, B, d, r, e, ⟨o, m⟩, o', m'⟩ := h
  exact ⟨ng, A, c, l, B, d, r, e, ⟨o.keptT hg ht hn, m⟩, o'.keptT hg ht hn, m'⟩
def WhlO (p : Int) (b : Nat) (w : World) (v : Value) : Prop := RatN b w v p 1 2
theorem WhlO_keep {p : Int} (b : Nat) (w w' : World) (v : Value) (h : WhlO p b w v) (hb : Below w.heap.size w w') : WhlO p b w' v := RatN.grow h hb
def TupO (x y : Int) (K : Nat) (b : Nat) (w : World) (v : Value) : Prop := ∃ u, v = .tuple #[u, .int .i64 0] ∧ RN x y K b w u
theorem TupO_keep {x y : Int} {K : Nat} (b : Nat) (w w' : World) (v : Value) (h : TupO x y K b w v) (hb : Below w.heap.size w w') : TupO x y K b w' v := by
  obtain ⟨u, e, h⟩ := h; exact ⟨u, e, RN_keep _ _ _ _ h hb⟩
def valF (b f r o v : Int) : Rat := if okW b f r o = true then (v : Rat) / ((2 ^ f.toNat : Int) : Rat) else 0
set_option maxRecDepth 100000 in
set_option maxHeartbeats 4000000 in
theorem r21_Value (b f r o v : Int) (w : World) (hv : I64 v) : Calls Try.prog 14 #[wordV b f r o, .int .i64 v] w (RetQ w (valF b f r o v) 4) := by
  have CV : Hid (∀ w1, Calls Try.prog 50 #[wordV b f r o] w1 fun e w' => e = .returned (.bool (okW b f r o)) ∧ Below w1.heap.size w1 w') := Lib.hid fun w1 => rf_Valid b f r o w1
  obtain ⟨dsR, hR1, hR2⟩ := row_Rat
  have HRR := Lib.hid (And.intro hR1 hR2)
  clear hR1 hR2
  rcases Bool.eq_false_or_eq_true (okW b f r o) with h | h
  · have hf := okW_iff.1 h
    have HVL : Hid (valF b f r o v = (v : Rat) / ((2 ^ f.toNat : Int) : Rat)) := Lib.hid (by unfold valF; rw [if_pos h])
    rw [h] at CV
    obtain ⟨n, rfl⟩ : ∃ n : Nat, f = n := ⟨f.toNat, by omega⟩
    have hn : n ≤ 30 := by omega
    have CO : Hid (∀ w1, Calls Try.prog 38 #[.int .i64 v] w1 fun e w' => ∃ u, e = .returned u ∧ RatN w1.heap.size w' u v 1 2 ∧ Below w1.heap.size w1 w') := Lib.hid fun w1 => r3_OfN v w1 hv
    have CP : Hid (∀ w1, Calls Try.prog 52 #[.int .i64 (n : Int)] w1 fun e w' => ∃ u, e = .returned u ∧ RatN w1.heap.size w' u (2 ^ n) 1 2 ∧ Below w1.heap.size w1 w') := Lib.hid fun w1 => r21_power n w1 hn
    have CD : Hid (∀ u1 u2 w1 {b1 : Nat}, b1 ≤ w1.heap.size → RatN b1 w1 u1 v 1 2 → RatN b1 w1 u2 (2 ^ n) 1 2 → Calls Try.prog 63 #[u1, u2] w1 (RetRD w1 v (2 ^ n) 4)) := Lib.hid fun u1 u2 w1 b1 hb h1 h2 => by
      have hd := r3_DivE u1 u2 v 1 (2 ^ n) 1 2 2 w1 h1.form h2.form (fun w2 hw => (r3_partsN u1 v 1 b1 2 w1 h1 (by decide) hb (by decide) (by decide) w2 hw).mono fun _ _ h => h.more hb) (fun w2 hw => (r3_partsN u2 (2 ^ n) 1 b1 2 w1 h2 (by decide) hb (by decide) (by decide) w2 hw).mono fun _ _ h => h.more hb) (by decide) (by decide) (by decide) (by decide) (by have := pow2_pos n; omega)
      rw [Int.mul_one, Int.one_mul] at hd
      exact hd
    clear hf hn h hv
    go_enter Try.func14, Try.ntmps14
    go_upto_region 1 with fail
    have hB0 : Below w.heap.size w ((w.alloc (.cells #[.int .i64 b, .int .i64 (n : Int), .int .i64 r, .int .i64 o] 23)).alloc (.cells #[.bool false, .slice none 0 0, .slice none 0 0] 28)) := (((Below.refl _ _).alloc (Nat.le_refl _) _).alloc (by simp; try omega) _)
    have bx0 : Box ((w.alloc (.cells #[.int .i64 b, .int .i64 (n : Int), .int .i64 r, .int .i64 o] 23)).alloc (.cells #[.bool false, .slice none 0 0, .slice none 0 0] 28)) (w.heap.size) [.int .i64 b, .int .i64 (n : Int), .int .i64 r, .int .i64 o] := ((Box.new (by simp)).alloc _)
    have bx1 : Box ((w.alloc (.cells #[.int .i64 b, .int .i64 (n : Int), .int .i64 r, .int .i64 o] 23)).alloc (.cells #[.bool false, .slice none 0 0, .slice none 0 0] 28)) (w.heap.size + 1) [.bool false, .slice none 0 0, .slice none 0 0] := (Box.new (by simp))
    generalize (w.alloc (.cells #[.int .i64 b, .int .i64 (n : Int), .int .i64 r, .int .i64 o] 23)).alloc (.cells #[.bool false, .slice none 0 0, .slice none 0 0] 28) = wA at hB0 bx0 bx1 ⊢
    have HA := Lib.hid (And.intro hB0 (And.intro bx0 bx1))
    clear hB0 bx0 bx1
    have x0 : wA.cell? ⟨w.heap.size, 0, none⟩ = some (.int .i64 b) := (HA.out.2.1).2.1 0
    have x1 : wA.cell? ⟨w.heap.size, 1, none⟩ = some (.int .i64 (n : Int)) := (HA.out.2.1).2.1 1
    have x2 : wA.cell? ⟨w.heap.size, 2, none⟩ = some (.int .i64 r) := (HA.out.2.1).2.1 2
    have x3 : wA.cell? ⟨w.heap.size, 3, none⟩ = some (.int .i64 o) := (HA.out.2.1).2.1 3
    go_upto_region 3 with (go_at_call 50; (with_reducible refine (CV.out _).mono ?_); rintro e1 w1 ⟨rfl, hb1⟩; have HB1 := Lib.hid hb1; clear hb1)
    clear x0 x1 x2 x3
    refine wp_region_grow7 (fun i => Nat.blt i 10) (fun j => j == 8) (fun w9 => Below w1.heap.size w1 w9) (gT [.v (.int .i64 v), .gen (WhlO v) WhlO_keep, .v (.pointer (some ⟨w.heap.size, 1, none⟩)), .v (.int .i64 (n : Int)), .gen (WhlO (2 ^ n)) WhlO_keep, .gen (TupO v (2 ^ n) 4) TupO_keep, .gen (TupO v (2 ^ n) 4) TupO_keep, .gen (RN v (2 ^ n) 4) RN_keep, .v (.int .i64 0), .box 28 [.bool false, .slice none 0 0, .slice none 0 0]]) (fun a b => Below a.heap.size a b) (dT w1.heap.size [.v (.int .i64 v), .gen (WhlO v) WhlO_keep, .v (.pointer (some ⟨w.heap.size, 1, none⟩)), .v (.int .i64 (n : Int)), .gen (WhlO (2 ^ n)) WhlO_keep, .gen (TupO v (2 ^ n) 4) TupO_keep, .gen (TupO v (2 ^ n) 4) TupO_keep, .gen (RN v (2 ^ n) 4) RN_keep, .v (.int .i64 0), .box 28 [.bool false, .slice none 0 0, .slice none 0 0]]) (by kernel_rfl) (by kernel_rfl) (Below.refl _ _).drew (fun j x a b h1 h2 => ⟨below_then h1 h2.1, fun i _ v => dT_keep h2.1 i v, Below.refl _ _, fun w0 h => below_then h h2.1⟩) (fun j v w h _ => ⟨Below.refl _ _, (show j = 8 by simpa using h) ▸ nbx rfl⟩) ?_ (by
      intro j o ho _ hl vs w9 hp hF
      obtain rfl : j = 8 := by simpa using hl
      injection ho with ho
      subst ho
      obtain ⟨u1, e, hu1⟩ : TupO v (2 ^ n) 4 w1.heap.size w9 (vs 6) := hF 6 (by decide)
      exact ⟨.int .i64 0, fun w' => by simp [execOp, stL, depsB, Region.binds, go_sem, Act.put, e], rfl⟩) ?_
    · refine ⟨?_, ?_, ?_, ?_, ?_, ?_, ?_, ?_, ?_, ?_, trivial⟩
      all_goals
        intro vs w9 hp hF
        have HP := Lib.hid hp
        have y1 : w9.cell? ⟨w.heap.size, 1, none⟩ = some (.int .i64 (n : Int)) := ((HA.out.2.1.keep HB1.out).keep hp).2.1 1
        clear hp
        simp [depsB, Region.binds, dT] at hF
        simp [stL, depsB, Region.binds, Act.put, hF]
      · (go_wp2_with fail; exact ⟨rfl, Below.refl _ _, nbx rfl⟩)
      · go_wp2_with (go_at_call 38; (with_reducible refine (CO.out _).mono ?_); rintro e1 w1' ⟨v1, rfl, ho, hb1⟩)
        exact ⟨ho.base HP.out.size, hb1, nbx rfl⟩
      · (go_wp2_with fail; exact ⟨rfl, Below.refl _ _, nbx rfl⟩)
      · (go_wp2_with fail; exact ⟨rfl, Below.refl _ _, nbx rfl⟩)
      · go_wp2_with (go_at_call 52; (with_reducible refine (CP.out _).mono ?_); rintro e1 w1' ⟨v1, rfl, ho, hb1⟩)
        exact ⟨ho.base HP.out.size, hb1, nbx rfl⟩
      · obtain ⟨h1, h4⟩ := hF
        have H1 : Hid (RatN w1.heap.size w9 (vs 1) v 1 2) := Lib.hid h1
        have H4 : Hid (RatN w1.heap.size w9 (vs 4) (2 ^ n) 1 2) := Lib.hid h4
        obtain ⟨g1, A1, n1, c1, B1, m1, d1, e1⟩ := H1.out.form
        obtain ⟨g4, A4, n4, c4, B4, m4, d4, e4⟩ := H4.out.form
        rw [e1] at H1
        rw [e4] at H4
        clear h1 h4
        simp only [e1, e4]
        go_wp2_with (go_at_call 63; (with_reducible refine (CD.out _ _ _ HP.out.size H1.out H4.out).mono ?_); rintro e1' w1' ⟨v1, pp, qq, rfl, hn, hq, hz, h1, hb1⟩)
        exact ⟨⟨_, rfl, pp, qq, hn.base HP.out.size, hq, hz, h1⟩, hb1, nbx rfl⟩
      · obtain ⟨u1, e, hu1⟩ := hF
        simp only [e]
        go_wp2_with fail
        exact ⟨⟨_, rfl, hu1⟩, Below.refl _ _, nbx rfl⟩
      · obtain ⟨u1, e, hu1⟩ := hF
        simp only [e]
        go_wp2_with fail
        exact ⟨hu1, Below.refl _ _, nbx rfl⟩
      · obtain ⟨u1, e, hu1⟩ := hF
        simp only [e]
        go_wp2_with fail
        exact ⟨rfl, Below.refl _ _, nbx rfl⟩
      · (go_wp2_with fail; exact ⟨BoxO.new HP.out.size, (Below.refl _ _).alloc (Nat.le_refl _) _, fun _ => rfl⟩)
    intro vs w9 hp hF hpr
    obtain ⟨pp, qq, hn, hr⟩ : RN v (2 ^ n) 4 w1.heap.size w9 (vs 7) := hF 7 (by decide) rfl
    obtain ⟨g7, A7, n7, c7, B7, m7, d7, e7⟩ := hn.form
    rw [e7] at hn
    have e8 : vs 8 = .int .i64 0 := hF 8 (by decide) rfl
    obtain ⟨g9, e9, k9, b9, t9⟩ : BoxO w1.heap.size w9 (vs 9) 28 [.bool false, .slice none 0 0, .slice none 0 0] := hF 9 (by decide) rfl
    clear hpr hF
    show wpList Try.prog _ _ [_, _] _ _
    simp [stL, Act.put, e7, e8, e9]
    refine wp_st rfl 28 _ _ rfl g9 0 [_, _, _] rfl rfl size_Rat rfl b9 (Nat.le_refl _) rfl ?_
    intro W1 c1 q1
    have HQ := Lib.hid (hn.keptT q1 t9 (by decide))
    have HC : Hid (Box W1 g9 [.bool g7, .slice A7 n7 c7, .slice B7 m7 d7]) := Lib.hid c1
    have HB3 : Hid (Below w1.heap.size w1 W1) := Lib.hid (put_facts hp k9 q1)
    have HRR2 := Lib.hid hr
    clear hn hr e7 e8 e9 k9 b9 t9 c1 q1 hp
    go_wp2_with (first
      | ((with_reducible show wpList _ _ _ (Oper.mk _ (.load 28 _) _ _ _ _ :: _) _ _); refine wp_ld rfl 28 _ rfl (g9) 0 rfl (HC.out) [.bool g7, .slice A7 n7 c7, .slice B7 m7 d7] (fun j v h => by rcases j with _ | _ | _ | j <;> simp at h ⊢ <;> exact h) dsR HRR.out.1 HRR.out.2 size_Rat ?_)
      | ((with_reducible show wpList _ _ _ (Oper.mk none (.store 28 _ _) _ _ _ _ :: _) _ _); refine wp_st rfl 28 _ _ rfl (w.heap.size + 1) 0 [_, _, _] rfl rfl size_Rat rfl ((HA.out.2.2.keep HB1.out).keep HB3.out) (Nat.le_refl _) rfl ?_; intro W9 c9 q9))
    have hba := below_then HA.out.1 HB1.out
    have hW := put_facts (g := w.heap.size + 1) (below_then hba HB3.out) (by omega) q9
    have hlt : w.heap.size + 1 < w1.heap.size := Nat.lt_of_lt_of_le HA.out.2.2.1 HB1.out.size
    have hq := (HQ.out.away q9 hlt).base (b' := w.heap.size) hba.size
    refine bodyPost_ret (resC rfl _ _ W9 (g := w.heap.size + 1) rfl (res_box 28 c9 dsR HRR.out.1 HRR.out.2 size_Rat)) rfl ?_
    refine ⟨_, rfl, ?_, hW⟩
    have hz := HRR2.out.2.1
    rw [HVL.out, Int.toNat_natCast, hz]
    exact hq.ratQ HRR2.out.1
  · have HVL : Hid (valF b f r o v = ((0 : Int) : Rat)) := Lib.hid (by unfold valF; rw [if_neg (by simp [h])]; rfl)
    rw [h] at CV
    have CO : Hid (∀ w1, Calls Try.prog 38 #[.int .i64 0] w1 (RetQ w1 ((0 : Int) : Rat) 2)) := Lib.hid fun w1 => r3_Of 0 w1 (by unfold I64; omega)
    clear h hv
    go_enter Try.func14, Try.ntmps14
    go_upto_region 1 with fail
    have hB0 : Below w.heap.size w ((w.alloc (.cells #[.int .i64 b, .int .i64 f, .int .i64 r, .int .i64 o] 23)).alloc (.cells #[.bool false, .slice none 0 0, .slice none 0 0] 28)) := (((Below.refl _ _).alloc (Nat.le_refl _) _).alloc (by simp; try omega) _)
    have bx0 : Box ((w.alloc (.cells #[.int .i64 b, .int .i64 f, .int .i64 r, .int .i64 o] 23)).alloc (.cells #[.bool false, .slice none 0 0, .slice none 0 0] 28)) (w.heap.size) [.int .i64 b, .int .i64 f, .int .i64 r, .int .i64 o] := ((Box.new (by simp)).alloc _)
    have bx1 : Box ((w.alloc (.cells #[.int .i64 b, .int .i64 f, .int .i64 r, .int .i64 o] 23)).alloc (.cells #[.bool false, .slice none 0 0, .slice none 0 0] 28)) (w.heap.size + 1) [.bool false, .slice none 0 0, .slice none 0 0] := (Box.new (by simp))
    generalize (w.alloc (.cells #[.int .i64 b, .int .i64 f, .int .i64 r, .int .i64 o] 23)).alloc (.cells #[.bool false, .slice none 0 0, .slice none 0 0] 28) = wA at hB0 bx0 bx1 ⊢
    have HA := Lib.hid (And.intro hB0 (And.intro bx0 bx1))
    clear hB0 bx0 bx1
    have x0 : wA.cell? ⟨w.heap.size, 0, none⟩ = some (.int .i64 b) := (HA.out.2.1).2.1 0
    have x1 : wA.cell? ⟨w.heap.size, 1, none⟩ = some (.int .i64 f) := (HA.out.2.1).2.1 1
    have x2 : wA.cell? ⟨w.heap.size, 2, none⟩ = some (.int .i64 r) := (HA.out.2.1).2.1 2
    have x3 : wA.cell? ⟨w.heap.size, 3, none⟩ = some (.int .i64 o) := (HA.out.2.1).2.1 3
    go_wp2_with (first
      | (go_at_call 50; (with_reducible refine (CV.out _).mono ?_); rintro e1 w1 ⟨rfl, hb1⟩; have HB1 := Lib.hid hb1; clear hb1)
      | (go_at_call 38; (with_reducible refine (CO.out _).mono ?_); rintro e2 w2 ⟨v2, rfl, hq, hb2⟩; have HQ2 := Lib.hid hq; obtain ⟨g2, A2, n2, c2, B2, m2, d2, rfl⟩ := hq.form; have HB2 := Lib.hid hb2; clear hq hb2)
      | ((with_reducible show wpList _ _ _ (Oper.mk none (.store 28 _ _) _ _ _ _ :: _) _ _); refine wp_st rfl 28 _ _ rfl (w.heap.size + 1) 0 [_, _, _] rfl rfl size_Rat rfl ((HA.out.2.2.keep HB1.out).keep HB2.out) (Nat.le_refl _) rfl ?_; intro W9 c9 g9))
    have hba := below_then HA.out.1 HB1.out
    have hW := put_facts (g := w.heap.size + 1) (below_then hba HB2.out) (by omega) g9
    have hlt : w.heap.size + 1 < w1.heap.size := Nat.lt_of_lt_of_le HA.out.2.2.1 HB1.out.size
    have hq := (HQ2.out.away g9 hlt).base (b' := w.heap.size) hba.size
    refine bodyPost_ret (resC rfl _ _ W9 (g := w.heap.size + 1) rfl (res_box 28 c9 dsR HRR.out.1 HRR.out.2 size_Rat)) rfl ?_
    refine ⟨_, rfl, ?_, hW⟩
    rw [HVL.out]
    exact hq.le (by decide)
end Go.Proofs.Ytmdfgidejdiiiaa
end
