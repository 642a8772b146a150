/- The walk of the law BankTurns. -/
import Derived.Test.YtimhplkkgbpapaaVb
import Derived.Test.YtimhplkkgbpapaaAs
namespace Go.Proofs.Ytimhplkkgbpapaa
open Go.RowKit

/-- append(v, s...) as a step of a region that draws its order. -/
theorem step_app_ints {ops : Array Oper} {o : Oper} {a : Act} {K : Act → World → Prop} {Q : Exit → Act → World → Prop} {E : Prop} (W : World) (hw : Region.wanted o (yielded ops a.tmps) = true) (s x : Operand)
    (ho : o.op = .call { callee := .builtin .append, args := #[s, x], argTypes := #[23, 23] }) (base : Nat) (l m : List Int)
    (hown : Own base W (a.eval s) l) (hx : ∃ A n c, a.eval x = .slice A n c ∧ Ints W A m ∧ m.length = n) (hn : l.length + m.length ≤ 100000000) (hbase : base ≤ W.heap.size)
    (h : ∀ v' w', Own base w' v' (l ++ m) → W.grownBy w' (a.eval s).ownBlock → Below base W w' → K (a.put o.dst v') w') :
    if Region.wanted o (yielded ops a.tmps) = true then Oper.wp Try.prog o a W K Q else E := by
  rw [if_pos hw]
  obtain ⟨A, n, c, hx, hI, rfl⟩ := hx
  obtain ⟨v', w', hrun, h1, h2, h3⟩ := run_app_ints W base o.type (a.eval s) l m A c hown hI hn hbase
  unfold Oper.wp execOp
  simp only [ho, resolve, invoke, builtin, Sem.run_bind, Sem.run_pure, Result.andThen_ok, List.map_toArray, List.map_cons, List.map_nil, hx, hrun]
  exact h _ _ h1 h2 ((Below.refl base W).grown h2 hbase (fun k hk => (hown.1.lt k hk).1))
theorem empA {w : World} : Own w.heap.size (w.alloc (.cells #[] 3)).drew (.slice (some ⟨w.heap.size, 0, none⟩) 0 0) [] := Own.empty rfl
theorem empB {w : World} {o : Obj} : Own w.heap.size ((w.alloc (.cells #[] 3)).alloc o).drew (.slice (some ⟨w.heap.size, 0, none⟩) 0 0) [] := (Own.empty rfl).grow ((Below.refl _ _).alloc (Nat.le_refl _) _).drew
theorem empC {w : World} {o : Obj} : Own w.heap.size ((w.alloc o).alloc (.cells #[] 3)).drew (.slice (some ⟨w.heap.size + 1, 0, none⟩) 0 0) [] := (Own.empty (by simp)).base (by simp)
theorem belowP1 {w w' : World} {o : Obj} (h : Below w.heap.size (w.alloc o).drew w') : Below w.heap.size w w' := ((Below.refl w.heap.size w).alloc (Nat.le_refl _) o).drew.trans h
theorem belowP2 {w w' : World} {o p : Obj} (h : Below w.heap.size ((w.alloc o).alloc p).drew w') : Below w.heap.size w w' := (((Below.refl w.heap.size w).alloc (Nat.le_refl _) o).alloc (by simp) p).drew.trans h
theorem belowU {a w v : World} {o : Obj} (h : Below a.heap.size a w) (h2 : Below a.heap.size (w.alloc o) v) : Below a.heap.size a v := (h.alloc h.size o).trans h2
theorem lit_two {w : World} {x y : Int} {t : TypeId} (hx : I64 x) (hy : I64 y) : Ints (w.alloc (.cells #[.int .i64 x, .int .i64 y] t)) (some ⟨w.heap.size, 0, none⟩) [x, y] := by
  refine litB rfl (List.all_eq_true.2 fun u hu => ?_)
  have hu2 : I64 u := by
    simp at hu
    rcases hu with rfl | rfl
    · exact hx
    · exact hy
  have u1 := hu2.1
  have u2 := hu2.2
  simp; omega
theorem litK2 {w w' : World} {x y : Int} {t t' : TypeId} (hx : I64 x) (hy : I64 y) (hg : ((w.alloc (.cells #[] t)).alloc (.cells #[.int .i64 x, .int .i64 y] t')).drew.grownBy w' (some w.heap.size)) : Ints w' (some ⟨w.heap.size + 1, 0, none⟩) [x, y] := by
  have h0 : Ints ((w.alloc (.cells #[] t)).alloc (.cells #[.int .i64 x, .int .i64 y] t')).drew (some ⟨w.heap.size + 1, 0, none⟩) [x, y] := by
    have := lit_two (w := w.alloc (.cells #[] t)) (t := t') hx hy
    rw [show (w.alloc (.cells #[] t)).heap.size = w.heap.size + 1 by simp] at this
    exact this.grow (Below.refl _ _).drew
  exact h0.kept hg (fun _ ad e => by injection e with e; subst e; simp)
theorem litK3 {w w' : World} {x y : Int} {t t' : TypeId} (hx : I64 x) (hy : I64 y) (hg : ((w.alloc (.cells #[.int .i64 x, .int .i64 y] t')).alloc (.cells #[] t)).drew.grownBy w' (some (w.heap.size + 1))) : Ints w' (some ⟨w.heap.size, 0, none⟩) [x, y] := by
  have h0 : Ints ((w.alloc (.cells #[.int .i64 x, .int .i64 y] t')).alloc (.cells #[] t)).drew (some ⟨w.heap.size, 0, none⟩) [x, y] := (lit_two hx hy).grow ((Below.refl _ _).alloc (Nat.le_refl _) _).drew
  exact h0.kept hg (fun _ ad e => by injection e with e; subst e; simp)
theorem twoS {a w' : World} {p q : Addr} {x y : Value} (hp : p.block < a.heap.size) (hq : q.block < a.heap.size) (S : Hid (a.cell? p = some x ∧ a.cell? q = some y)) (b : Below a.heap.size a w') : w'.cell? p = some x ∧ w'.cell? q = some y :=
  ⟨(b.cell hp).trans S.out.1, (b.cell hq).trans S.out.2⟩
theorem emp1 {w : World} : Own w.heap.size (w.alloc (.cells #[] 3)) (.slice (some ⟨w.heap.size, 0, none⟩) 0 0) [] := Own.empty rfl
theorem emp2 {w : World} {o : Obj} : Own w.heap.size ((w.alloc (.cells #[] 3)).alloc o) (.slice (some ⟨w.heap.size, 0, none⟩) 0 0) [] := (Own.empty rfl).grow ((Below.refl _ _).alloc (Nat.le_refl _) _)
theorem emp3 {w : World} {o : Obj} : Own w.heap.size ((w.alloc o).alloc (.cells #[] 3)) (.slice (some ⟨w.heap.size + 1, 0, none⟩) 0 0) [] := (Own.empty (by simp)).base (by simp)
theorem bP1 {a w w' : World} {o : Obj} (h0 : Below a.heap.size a w) (h : Below w.heap.size (w.alloc o) w') : Below a.heap.size a w' := below_then (h0) (((Below.refl w.heap.size w).alloc (Nat.le_refl _) o).trans h)
theorem bP2 {a w w' : World} {o p : Obj} (h0 : Below a.heap.size a w) (h : Below w.heap.size ((w.alloc o).alloc p) w') : Below a.heap.size a w' := below_then (h0) ((((Below.refl w.heap.size w).alloc (Nat.le_refl _) o).alloc (by simp) p).trans h)
theorem lit_one {w : World} {x : Int} {t : TypeId} (hx : I64 x) : Ints (w.alloc (.cells #[.int .i64 x] t)) (some ⟨w.heap.size, 0, none⟩) [x] := by
  refine litB rfl (List.all_eq_true.2 fun u hu => ?_)
  simp at hu
  subst hu
  have u1 := hx.1
  have u2 := hx.2
  simp; omega
theorem litS2 {w w' : World} {x : Int} {t t' : TypeId} (hx : I64 x) (hg : ((w.alloc (.cells #[] t)).alloc (.cells #[.int .i64 x] t')).grownBy w' (some w.heap.size)) : Ints w' (some ⟨w.heap.size + 1, 0, none⟩) [x] := by
  have h0 := lit_one (w := w.alloc (.cells #[] t)) (t := t') hx
  rw [show (w.alloc (.cells #[] t)).heap.size = w.heap.size + 1 by simp] at h0
  exact h0.kept hg (fun _ ad e => by injection e with e; subst e; simp)
theorem litS3 {w w' : World} {x : Int} {t t' : TypeId} (hx : I64 x) (hg : ((w.alloc (.cells #[.int .i64 x] t')).alloc (.cells #[] t)).grownBy w' (some (w.heap.size + 1))) : Ints w' (some ⟨w.heap.size, 0, none⟩) [x] :=
  ((lit_one hx).grow ((Below.refl _ _).alloc (Nat.le_refl _) _)).kept hg (fun _ ad e => by injection e with e; subst e; simp)
theorem w32_turn2 {x : List Int} (h : 2 ≤ x.length) (hw : W32 x) : W32 (turn2 x) := fun y hy => by
  unfold turn2 at hy
  rcases List.mem_append.1 hy with hy | hy
  · exact hw y (List.mem_of_mem_drop hy)
  · simp at hy
    rcases hy with rfl | rfl
    · exact w32_el hw 0
    · exact w32_el hw 1
/-- Two slices of n elements and no error. -/
def Got2h (w : World) (a b : List Int) (n : Nat) (e : Ending) (w' : World) : Prop := ∃ A c B d, e = .returned (.tuple #[.slice A n c, .slice B n d, .int .i64 0]) ∧ (n ≤ c ∧ n ≤ d) ∧ Ints w' A a ∧ Ints w' B b ∧ Below w.heap.size w w'
theorem got_AnalyseH (A B : Option Addr) (ls : List Lft) (x a b : List Int) (c d h n : Nat) (w : World) (hok : lftsB ls = true) (hx : x.length = 2 * h) (hn : n = x.length) (hh : h ≤ 2048) (hw : W32 x) (he : analyseF ls x = (a, b)) (hL : Lifts w A ls) (hI : Ints w B x) :
    Calls Try.prog 10 #[.slice A ls.length c, .slice B n d] w (Got2h w a b h) := by
  subst hn
  obtain ⟨k1, k2⟩ := lftsB_coefs hok
  refine (bk_Analyse A B ls x c d w hL hI k1 k2 (by omega)).mono ?_
  rintro e w' ⟨v1, v2, rfl, o1, o2, hb⟩
  have h0 := anE_ok hok hx hh hw
  have hl := analyse_length (ls := ls) hx
  rw [he] at hl
  rw [show anLo ls x = a by unfold anLo; rw [if_pos h0, he]] at o1
  rw [show anHi ls x = b by unfold anHi; rw [if_pos h0, he]] at o2
  obtain ⟨A1, c1, rfl, e1, i1⟩ := o1.form
  obtain ⟨A2, c2, rfl, e2, i2⟩ := o2.form
  rw [h0]
  have l1 : a.length = h := hl.1
  have l2 : b.length = h := hl.2
  rw [l1] at e1 ⊢
  rw [l2] at e2 ⊢
  exact ⟨A1, c1, A2, c2, rfl, ⟨e1, e2⟩, i1, i2, hb⟩
set_option maxRecDepth 100000 in
set_option maxHeartbeats 4000000 in
theorem law_BankTurns (u : (Option Addr × Nat × List Bool) × (Option Addr × Nat × List Int) × (Option Addr × Nat × List Int) × (Option Addr × Nat × List Int)) (t : Option Addr × Nat × List Int) (w : World) (hu : StepsAt w u) (ht : Ints w t.1 t.2.2 ∧ t.2.2.length ≤ 9223372036854775807) :
    Calls Try.prog 3 #[stepsV u, .slice t.1 t.2.2.length t.2.1] w fun e w' => e = .returned (.bool true) ∧ Below w.heap.size w w' := by
  obtain ⟨ls, hok, hcl⟩ := got_Lifts u
  obtain ⟨T, ct, x⟩ := t
  obtain ⟨y, h, hy, hh, hw, hcw⟩ := got_wide x
  obtain ⟨ht, htl⟩ := ht
  simp only at ht htl ⊢
  have hu2 : ∀ o, StepsAt (w.alloc o) u := fun o => by
    obtain ⟨⟨h1, k1⟩, ⟨h2, k2⟩, ⟨h3, k3⟩, ⟨h4, k4⟩⟩ := hu
    have hb := (Below.refl w.heap.size w).alloc (Nat.le_refl _) o
    exact ⟨⟨h1.grow hb, k1⟩, ⟨h2.grow hb, k2⟩, ⟨h3.grow hb, k3⟩, ⟨h4.grow hb, k4⟩⟩
  have ht2 := fun o => ht.grow ((Below.refl _ _).alloc (Nat.le_refl _) o)
  have HU2 := Lib.hid hu2
  have HT2 := Lib.hid ht2
  have HCW := Lib.hid (fun w A c => hcw w A c htl)
  have hb0 := fun o => (Below.refl w.heap.size w).alloc (Nat.le_refl _) o
  have HB0 := Lib.hid hb0
  obtain ⟨⟨O, c1, os⟩, ⟨S, c2, st⟩, ⟨C, c3, cf⟩, ⟨H, c4, sh⟩⟩ := u
  have HCL : Hid (∀ w, StepsAt w ((O, c1, os), (S, c2, st), (C, c3, cf), (H, c4, sh)) → Calls Try.prog 7 #[.agg #[.slice O os.length c1, .slice S st.length c2, .slice C cf.length c3, .slice H sh.length c4]] w (GotL w ls)) := hcl
  have HW := Lib.hid hw
  have HY := Lib.hid hy
  have HOK := Lib.hid hok
  have e4 : y.length ≤ 40 := by omega
  clear hu2 ht2 hcl hcw hb0 hw hok htl ht hu hy
  unfold stepsV
  simp only
  go_enter Try.func3, Try.ntmps3
  go_wp2_with fail
  refine (HCL.out _ (HU2.out _)).mono ?_
  rintro e w1 ⟨A, cA, rfl, hL, hb1⟩
  have hb := (HB0.out _).trans (hb1.mono (HB0.out _).size)
  have hT := (HT2.out _).grow hb1
  clear hb1 HU2 HT2 HB0 HCL
  go_wp2_with fail
  refine (HCW.out _ _ _ hT).mono ?_
  rintro e w2 ⟨B, cB, rfl, hcB, hI, hb1⟩
  have hb := below_then hb hb1
  have hL := hL.grow hb1
  clear hb1 HCW hT
  by_cases hz : y.length = 0
  · go_wp2_with fail
    refine (known33 _).mono ?_
    rintro e w3 ⟨rfl, hb1⟩
    have hb := below_then hb hb1
    go_wp2
    go_ret
    exact ⟨rfl, hb⟩
  · have h1 : 1 ≤ h := by have := HY.out; omega
    have h2 : 2 ≤ y.length := by have := HY.out; omega
    obtain ⟨ad, x0, rfl, hbk, hx0, hc0, p1, p2⟩ := hI.at_ (k := 0) (by omega)
    obtain ⟨ad', x1, e, _, hx1, hc1, p3, p4⟩ := hI.at_ (k := 1) (by omega)
    injection e with e
    subst e
    have hi0 : I64 x0 := ⟨p1, p2⟩
    have hi1 : I64 x1 := ⟨p3, p4⟩
    have hTT : Hid (([] ++ y.drop 2) ++ [x0, x1] = turn2 y) := by
      show _ = _
      unfold turn2 el
      rw [hx0, hx1]; rfl
    have hl2 : (y.drop 2).length = y.length - 2 := by simp
    have HN1 : Hid (([] : List Int).length + (y.drop 2).length ≤ 100000000) := by show _ ≤ _; simp; omega
    have HN2 : Hid (([] ++ y.drop 2 : List Int).length + [x0, x1].length ≤ 100000000) := by show _ ≤ _; simp; omega
    have hI6 : Ints w2 (if cB = 2 then some ad else some (ad.add 2)) (y.drop 2) := hI.dropL (k := 2) hcB
    have HI := Lib.hid hI
    have S0 : Hid (w2.cell? ad = some (.int .i64 x0) ∧ w2.cell? ⟨ad.block, ad.off + 1, none⟩ = some (.int .i64 x1)) := ⟨by rw [← hc0]; rfl, by rw [← hc1]; rfl⟩
    have hbk1 : (⟨ad.block, ad.off + 1, none⟩ : Addr).block < w2.heap.size := hbk
    obtain ⟨N, hN⟩ : ∃ N, y.length = N := ⟨_, rfl⟩
    rw [hN] at h2 hcB hl2 e4 ⊢
    have HN := Lib.hid hN
    clear hN
    have q0 : 0 < N := by omega
    have q5 : 1 < N := by omega
    have q1 : (0 : Int) < (N : Int) := by omega
    have q2 : (1 : Int) < (N : Int) := by omega
    have q3 : (2 : Int) ≤ (N : Int) := by omega
    have q4 : (2 : Int) ≤ (cB : Int) := by omega
    clear hx0 hx1 p1 p2 p3 p4 hI hc0 hc1
    go_upto_region 4 with fail
    go_cut [7] (fun s7 wx => ∃ Z dZ, s7 = .slice Z (turn2 y).length dZ ∧ Ints wx Z (turn2 y) ∧ Below w2.heap.size w2 wx)
    case first =>
      by_cases hce : cB = 2
      · rw [if_pos hce] at hI6
        subst hce
        go_region_held3 (fun w' => w'.cell? ad = some (.int .i64 x0) ∧ w'.cell? ⟨ad.block, ad.off + 1, none⟩ = some (.int .i64 x1))
          (exact twoS hbk hbk1 S0 (by go_grown))
          (first
            | ((with_reducible refine step_app_ints _ ?_ (.tmp 22) (.tmp 24) rfl w2.heap.size [] (y.drop 2) ?_ ?_ ?_ ?_ ?_); (exact rfl); (first | exact empA | exact empB | exact empC); (exact ⟨_, _, _, rfl, hI6.grow (by go_grown), (by first | exact hl2 | (rw [hl2]; omega))⟩); (exact HN1.out); (simp; try omega); intro v1 w3 ho1 hg1 hb1; (first | (have hlit := litK2 hi0 hi1 hg1) | (have hlit := litK3 hi0 hi1 hg1) | skip); (first | (have hbT := belowP2 hb1) | (have hbT := belowP1 hb1)); have hs3 := hbT.size)
            | ((with_reducible refine step_app_ints _ ?_ (.tmp 25) (.tmp 32) rfl w2.heap.size ([] ++ y.drop 2) [x0, x1] ?_ ?_ ?_ ?_ ?_); (exact rfl); (exact ho1.grow (by go_grown)); (first | exact ⟨_, _, _, rfl, hlit, rfl⟩ | exact ⟨_, _, _, rfl, lit_two hi0 hi1, rfl⟩); (exact HN2.out); (have := hbT.size; simp; omega); intro v2 w4 ho2 hg2 hb2; (have hbU : Below w2.heap.size w2 w4 := by (first | exact Below.trans hbT hb2 | exact belowU hbT hb2)); rw [hTT.out] at ho2))
        all_goals
          obtain ⟨Z, dZ, rfl, _, iz⟩ := ho2.form
          go_wp2_with fail
          go_meet
          exact ⟨_, _, rfl, iz, hbU⟩
      · rw [if_neg hce] at hI6
        go_region_held3 (fun w' => w'.cell? ad = some (.int .i64 x0) ∧ w'.cell? ⟨ad.block, ad.off + 1, none⟩ = some (.int .i64 x1))
          (exact twoS hbk hbk1 S0 (by go_grown))
          (first
            | ((with_reducible refine step_app_ints _ ?_ (.tmp 22) (.tmp 24) rfl w2.heap.size [] (y.drop 2) ?_ ?_ ?_ ?_ ?_); (exact rfl); (first | exact empA | exact empB | exact empC); (exact ⟨_, _, _, rfl, hI6.grow (by go_grown), (by first | exact hl2 | (rw [hl2]; omega))⟩); (exact HN1.out); (simp; try omega); intro v1 w3 ho1 hg1 hb1; (first | (have hlit := litK2 hi0 hi1 hg1) | (have hlit := litK3 hi0 hi1 hg1) | skip); (first | (have hbT := belowP2 hb1) | (have hbT := belowP1 hb1)); have hs3 := hbT.size)
            | ((with_reducible refine step_app_ints _ ?_ (.tmp 25) (.tmp 32) rfl w2.heap.size ([] ++ y.drop 2) [x0, x1] ?_ ?_ ?_ ?_ ?_); (exact rfl); (exact ho1.grow (by go_grown)); (first | exact ⟨_, _, _, rfl, hlit, rfl⟩ | exact ⟨_, _, _, rfl, lit_two hi0 hi1, rfl⟩); (exact HN2.out); (have := hbT.size; simp; omega); intro v2 w4 ho2 hg2 hb2; (have hbU : Below w2.heap.size w2 w4 := by (first | exact Below.trans hbT hb2 | exact belowU hbT hb2)); rw [hTT.out] at ho2))
        all_goals
          obtain ⟨Z, dZ, rfl, _, iz⟩ := ho2.form
          go_wp2_with fail
          go_meet
          exact ⟨_, _, rfl, iz, hbU⟩
    case rest =>
      obtain ⟨Z, dZ, rfl, iZ, hb1⟩ := hcut
      have hb := below_then hb hb1
      have hL := hL.grow hb1
      have hIc := HI.out.grow hb1
      clear hb1 HI hI6 S0
      obtain ⟨a, b, hab⟩ : ∃ a b, analyseF ls y = (a, b) := ⟨_, _, rfl⟩
      have hal := analyse_length (ls := ls) HY.out
      rw [hab] at hal
      obtain ⟨la, lb⟩ := hal
      simp only at la lb
      have htn := analyse_turn (ls := ls) HY.out h1
      rw [hab] at htn
      have QA : Hid (∀ (w : World) (A B : Option Addr) (c d : Nat), Lifts w A ls → Ints w B y → Calls Try.prog 10 #[.slice A ls.length c, .slice B N d] w (Got2h w a b h)) := fun w A B c d g0 g1 => got_AnalyseH A B ls y a b c d h N w HOK.out HY.out HN.out.symm (by omega) HW.out hab g0 g1
      have h2' : 2 ≤ y.length := by rw [HN.out]; exact h2
      have QB : Hid (∀ (w : World) (A B : Option Addr) (c d : Nat), Lifts w A ls → Ints w B (turn2 y) → Calls Try.prog 10 #[.slice A ls.length c, .slice B (turn2 y).length d] w (Got2h w (rot a) (rot b) h)) := fun w A B c d g0 g1 => got_AnalyseH A B ls (turn2 y) (rot a) (rot b) c d h _ w HOK.out (by rw [turn2_length h2', HY.out]) rfl (by omega) (w32_turn2 h2' HW.out) htn g0 g1
      clear h2' htn hab hTT hl2 HN1 HN2 hcB
      go_wp2_with fail
      refine (QA.out _ _ _ _ _ hL hIc).mono ?_
      rintro e w3 ⟨A1, d1, A2, d2, rfl, ⟨hd1, hd2⟩, i1, i2, hb1⟩
      have hb := below_then hb hb1
      have hL := hL.grow hb1
      have iZ := iZ.grow hb1
      clear hb1 hIc
      go_wp2_with fail
      refine (QB.out _ _ _ _ _ hL iZ).mono ?_
      rintro e w6 ⟨C1, e1, C2, e2, rfl, _, i3, i4, hb1⟩
      have hb := below_then hb hb1
      have i1 := i1.grow hb1
      have i2 := i2.grow hb1
      clear hb1 hL iZ
      obtain ⟨ad1, a0, rfl, k1, ha0, hc1, p1, p2⟩ := i1.at_ (k := 0) (by omega)
      obtain ⟨ad2, b0, rfl, k2, hb0, hc2, p3, p4⟩ := i2.at_ (k := 0) (by omega)
      have ia0 : I64 a0 := ⟨p1, p2⟩
      have ib0 : I64 b0 := ⟨p3, p4⟩
      have S0 : Hid (w6.cell? ad1 = some (.int .i64 a0) ∧ w6.cell? ad2 = some (.int .i64 b0)) := ⟨by rw [← hc1]; rfl, by rw [← hc2]; rfl⟩
      have HRA : Hid (([] ++ a.drop 1) ++ [a0] = rot a) := by
        show _ = _
        rw [rot_drop (by omega)]
        unfold el
        rw [ha0]; rfl
      have HRB : Hid (([] ++ b.drop 1) ++ [b0] = rot b) := by
        show _ = _
        rw [rot_drop (by omega)]
        unfold el
        rw [hb0]; rfl
      have id1 : Ints w6 (if d1 = 1 then some ad1 else some ⟨ad1.block, ad1.off + 1, none⟩) (a.drop 1) := i1.dropL (k := 1) (by omega)
      have id2 : Ints w6 (if d2 = 1 then some ad2 else some ⟨ad2.block, ad2.off + 1, none⟩) (b.drop 1) := i2.dropL (k := 1) (by omega)
      have la1 : Hid ((a.drop 1).length = h - 1) := by show _ = _; simp [la]
      have lb1 : Hid ((b.drop 1).length = h - 1) := by show _ = _; simp [lb]
      have lra : Hid ((rot a).length = h) := by show _ = _; rw [rot_length]; exact la
      have lrb : Hid ((rot b).length = h) := by show _ = _; rw [rot_length]; exact lb
      have z1 : ¬ h = 0 := by omega
      have z2 : (0 : Int) < (h : Int) := by omega
      have z3 : (1 : Int) ≤ (h : Int) := by omega
      have z4 : 0 < h := by omega
      clear i1 i2 la lb ha0 hb0 hc1 hc2 p1 p2 p3 p4 hd1 hd2
      go_upto_region 9 with fail
      have HNa : Hid (([] : List Int).length + (a.drop 1).length ≤ 100000000) := by show _ ≤ _; rw [la1.out]; simp; omega
      have HNb : Hid (([] : List Int).length + (b.drop 1).length ≤ 100000000) := by show _ ≤ _; rw [lb1.out]; simp; omega
      have HMa : Hid (([] ++ a.drop 1 : List Int).length + [a0].length ≤ 100000000) := by show _ ≤ _; rw [List.nil_append, la1.out]; simp; omega
      have HMb : Hid (([] ++ b.drop 1 : List Int).length + [b0].length ≤ 100000000) := by show _ ≤ _; rw [List.nil_append, lb1.out]; simp; omega
      go_region_held3 (fun w' => w'.cell? ad1 = some (.int .i64 a0) ∧ w'.cell? ad2 = some (.int .i64 b0))
        (exact twoS k1 k2 S0 (by go_grown))
        (first
          | (go_at_call 9; refine (known33 _).mono ?_; rintro e wb ⟨rfl, hk⟩; have hbb := belowD hk; have hsw := hbb.size)
          | (generalize (if d1 = 1 then some ad1 else some (⟨ad1.block, ad1.off + 1, none⟩ : Addr)) = BB at id1 ⊢; (with_reducible refine step_app_ints _ ?_ (.tmp 67) (.tmp 69) rfl wb.heap.size [] (a.drop 1) ?_ ?_ ?_ ?_ ?_); (exact rfl); (first | exact emp1 | exact emp2 | exact emp3); (exact ⟨_, _, _, rfl, Ints.grow id1 (by go_grown), la1.out⟩); (exact HNa.out); (simp; try omega); intro v1 w7 ho1 hg1 hb1; (first | (have hlit := litS2 ia0 hg1) | (have hlit := litS3 ia0 hg1) | skip); (first | (have hbT := bP2 hbb hb1) | (have hbT := bP1 hbb hb1)); have hs3 := hbT.size; (have hsb : wb.heap.size ≤ w7.heap.size := Nat.le_trans (by simp; try omega) hb1.size))
          | ((with_reducible refine step_app_ints _ ?_ (.tmp 70) (.tmp 74) rfl wb.heap.size ([] ++ a.drop 1) [a0] ?_ ?_ ?_ ?_ ?_); (exact rfl); (exact ho1.grow (by go_grown)); (first | exact ⟨_, _, _, rfl, hlit, rfl⟩ | exact ⟨_, _, _, rfl, lit_one ia0, rfl⟩); (exact HMa.out); (first | exact hsb | (have := hsb; simp; omega)); intro v2 w8 ho2 hg2 hb2; (have hbU : Below w6.heap.size w6 w8 := by (first | exact Below.trans hbT (hb2.mono hbb.size) | exact belowU hbT (hb2.mono hbb.size))); rw [HRA.out] at ho2; obtain ⟨Z1, z9, rfl, _, iz⟩ := ho2.form; have hq := i3.grow hbU)
          | (generalize (if d2 = 1 then some ad2 else some (⟨ad2.block, ad2.off + 1, none⟩ : Addr)) = BB at id2 ⊢; (with_reducible refine step_app_ints _ ?_ (.tmp 80) (.tmp 82) rfl wb.heap.size [] (b.drop 1) ?_ ?_ ?_ ?_ ?_); (exact rfl); (first | exact emp1 | exact emp2 | exact emp3); (exact ⟨_, _, _, rfl, Ints.grow id2 (by go_grown), lb1.out⟩); (exact HNb.out); (simp; try omega); intro v1 w7 ho1 hg1 hb1; (first | (have hlit := litS2 ib0 hg1) | (have hlit := litS3 ib0 hg1) | skip); (first | (have hbT := bP2 hbb hb1) | (have hbT := bP1 hbb hb1)); have hs3 := hbT.size; (have hsb : wb.heap.size ≤ w7.heap.size := Nat.le_trans (by simp; try omega) hb1.size))
          | ((with_reducible refine step_app_ints _ ?_ (.tmp 83) (.tmp 87) rfl wb.heap.size ([] ++ b.drop 1) [b0] ?_ ?_ ?_ ?_ ?_); (exact rfl); (exact ho1.grow (by go_grown)); (first | exact ⟨_, _, _, rfl, hlit, rfl⟩ | exact ⟨_, _, _, rfl, lit_one ib0, rfl⟩); (exact HMb.out); (first | exact hsb | (have := hsb; simp; omega)); intro v2 w8 ho2 hg2 hb2; (have hbU : Below w6.heap.size w6 w8 := by (first | exact Below.trans hbT (hb2.mono hbb.size) | exact belowU hbT (hb2.mono hbb.size))); rw [HRB.out] at ho2; obtain ⟨Z1, z9, rfl, _, iz⟩ := ho2.form; have hq := i4.grow hbU)
          | (go_at_call 11; with_reducible refine (rf_SameN _ _ (rot a) (rot a) _ _ h (rot a).length _ lra.out rfl ?_ rfl hq iz).mono ?_; (exact Nat.le_trans (Nat.le_of_eq lra.out) (Nat.le_trans hh (by decide))); rintro e wb ⟨rfl, hk⟩; have hbb := below_then hbU hk; have hsw := hbb.size)
          | (go_at_call 11; with_reducible refine (rf_SameN _ _ (rot b) (rot b) _ _ h (rot b).length _ lrb.out rfl ?_ rfl hq iz).mono ?_; (exact Nat.le_trans (Nat.le_of_eq lrb.out) (Nat.le_trans hh (by decide))); rintro e wb ⟨rfl, hk⟩; have hbb := below_then hbU hk; have hsw := hbb.size))
      all_goals
        go_wp2
        go_ret
        exact ⟨rfl, below_then hb hbb⟩
end Go.Proofs.Ytimhplkkgbpapaa
