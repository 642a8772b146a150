/- conflict of the reference of layer 40. -/
import Derived.Test.YtpmbgcfnehplaaaDoorE8
set_option linter.unusedVariables false
set_option linter.unusedSimpArgs false
namespace Go.Proofs.YtpmbgcfnehplaaaDoor
open Go.RowKit

theorem ld_insW {ops : Array Oper} {rest : List Oper} {o : Oper} {a : Act} {Q : Exit → Act → World → Prop} {w : World} {i : Ins} {g : Nat} (hb : Box w g i.cells) (hw : Region.wanted o (yielded ops a.tmps) = true) (x : Operand) (ho : o.op = .load 48 x) (hx : a.eval x = .pointer (some ⟨g, 0, none⟩)) (h : wpList Tryd.prog ops Q rest (a.put o.dst i.v) w) : wpList Tryd.prog ops Q (o :: rest) a w := by
  obtain ⟨d, h1, h2⟩ := row_ins
  exact BigFrame.wpList_want hw fun K hK => wp_load_mid _ x ho g 0 hx i.cells d (Box.range hb (fun j v hj => by rw [Nat.zero_add]; exact hj)) h1 h2 size_ins (hK _ _ h)
theorem entryC (w : World) (i j : Ins) : ∀ W, W = ((w.alloc (.cells i.cells.toArray 48)).alloc (.cells j.cells.toArray 48)) → Box W w.heap.size i.cells ∧ Box W (w.heap.size + 1) j.cells ∧ Below w.heap.size w W := fun W hW => by
  subst hW
  exact ⟨Box.alloc (Box.new rfl) _, Box.new (by simp), ((Below.refl w.heap.size w).alloc (Nat.le_refl _) _).alloc (by simp) _⟩
set_option maxRecDepth 100000 in
set_option maxHeartbeats 8000000 in
theorem r40_conflict (i j : Ins) (w : World) (ok1 : i.ok) (ok2 : j.ok) : Calls Tryd.prog 52 #[i.v, j.v] w fun e w' => e = .returned (.bool (depF i j)) ∧ Below w.heap.size w w' := by
  rw [← conF_dep]
  have CU1 : Hid (∀ w1, Calls Tryd.prog 41 #[i.v] w1 (RetII w1 i.rd i.wt)) := fun w1 => r38_Uses i w1 ok1
  have CU2 : Hid (∀ w1, Calls Tryd.prog 41 #[j.v] w1 (RetII w1 j.rd j.wt)) := fun w1 => r38_Uses j w1 ok2
  have CS1 : Hid (∀ w1, Calls Tryd.prog 65 #[i.v] w1 fun e w' => e = .returned (.bool (sumOp i.op)) ∧ Below w1.heap.size w1 w') := fun w1 => r40_sum i w1
  have CS2 : Hid (∀ w1, Calls Tryd.prog 65 #[j.v] w1 fun e w' => e = .returned (.bool (sumOp j.op)) ∧ Below w1.heap.size w1 w') := fun w1 => r40_sum j w1
  clear ok1 ok2
  unfold conF
  by_cases hi : i.op = 0
  · have hd : (i.op == 0) = true := by simpa using hi
    rw [hd]
    have HI0 := Lib.hid hi
    clear hi hd
    show Calls Tryd.prog 52 #[i.v, j.v] w fun e w' => e = .returned (.bool true) ∧ Below w.heap.size w w'
    go_enter Tryd.func52, Tryd.ntmps52
    go_upto_region 1 with fail
    obtain ⟨bi, bj, hb0⟩ := entryC w i j _ rfl
    change Code.wp _ _ _ _ ((w.alloc (.cells i.cells.toArray 48)).alloc (.cells j.cells.toArray 48))
    generalize ((w.alloc (.cells i.cells.toArray 48)).alloc (.cells j.cells.toArray 48)) = W0 at bi bj hb0 ⊢
    obtain ⟨y0, -, -, -⟩ := bi.c4
    obtain ⟨z0, -, -, -⟩ := bj.c4
    rw [HI0.out] at y0
    go_wp2_with fail
    go_ret
    exact ⟨rfl, hb0⟩
  have hd : (i.op == 0) = false := by simpa using hi
  have hdd : decide (i.op = 0) = false := decide_eq_false hi
  by_cases hj : j.op = 0
  · have hd' : (j.op == 0) = true := by simpa using hj
    rw [hd, hd']
    have HJ0 := Lib.hid hj
    have HDI := Lib.hid hdd
    have HDE := Lib.hid hd
    clear hj hd' hd hdd hi
    show Calls Tryd.prog 52 #[i.v, j.v] w fun e w' => e = .returned (.bool true) ∧ Below w.heap.size w w'
    go_enter Tryd.func52, Tryd.ntmps52
    go_upto_region 1 with fail
    obtain ⟨bi, bj, hb0⟩ := entryC w i j _ rfl
    change Code.wp _ _ _ _ ((w.alloc (.cells i.cells.toArray 48)).alloc (.cells j.cells.toArray 48))
    generalize ((w.alloc (.cells i.cells.toArray 48)).alloc (.cells j.cells.toArray 48)) = W0 at bi bj hb0 ⊢
    obtain ⟨y0, -, -, -⟩ := bi.c4
    obtain ⟨z0, -, -, -⟩ := bj.c4
    rw [HJ0.out] at z0
    have hdd := HDI.out
    have hde := HDE.out
    go_wp2_with fail
    go_ret
    exact ⟨rfl, hb0⟩
  have hd' : (j.op == 0) = false := by simpa using hj
  have hdd' : decide (j.op = 0) = false := decide_eq_false hj
  rw [hd, hd']
  obtain ⟨si, hsi⟩ : ∃ x, sumOp i.op = x := ⟨_, rfl⟩
  obtain ⟨sj, hsj⟩ : ∃ x, sumOp j.op = x := ⟨_, rfl⟩
  rw [hsi, hsj]
  rw [hsi] at CS1
  rw [hsj] at CS2
  clear hsi hsj
  obtain ⟨p1, hp1⟩ : ∃ p, p = (fun v : Int => (j.rd.contains v || j.wt.contains v) && !(v == 8 && si && sj)) := ⟨_, rfl⟩
  obtain ⟨p2, hp2⟩ : ∃ p, p = (fun v : Int => i.rd.contains v && !(v == 8 && si && sj)) := ⟨_, rfl⟩
  rw [← hp1, ← hp2]
  have HP1 := Lib.hid hp1
  have HP2 := Lib.hid hp2
  obtain ⟨R, hR⟩ : ∃ R, (i.wt.any p1 || j.wt.any p2) = R := ⟨_, rfl⟩
  rw [hR]
  have HRR := Lib.hid hR
  have HTRUE1 : Hid (∀ v, v ∈ i.wt → p1 v = true → R = true) := fun v h1 h2 => by rw [← HRR.out, show i.wt.any p1 = true from List.any_eq_true.2 ⟨v, h1, h2⟩]; rfl
  have HTRUE2 : Hid (∀ v, v ∈ j.wt → p2 v = true → R = true) := fun v h1 h2 => by rw [← HRR.out, show j.wt.any p2 = true from List.any_eq_true.2 ⟨v, h1, h2⟩]; simp
  show Calls Tryd.prog 52 #[i.v, j.v] w fun e w' => e = .returned (.bool R) ∧ Below w.heap.size w w'
  clear hR hp1 hp2
  go_enter Tryd.func52, Tryd.ntmps52
  go_upto_region 1 with fail
  obtain ⟨bi, bj, hb0⟩ := entryC w i j _ rfl
  change Code.wp _ _ _ _ ((w.alloc (.cells i.cells.toArray 48)).alloc (.cells j.cells.toArray 48))
  generalize ((w.alloc (.cells i.cells.toArray 48)).alloc (.cells j.cells.toArray 48)) = W0 at bi bj hb0 ⊢
  obtain ⟨y0, -, -, -⟩ := bi.c4
  obtain ⟨z0, -, -, -⟩ := bj.c4
  have HB0 := Lib.hid hb0
  have BI := Lib.hid bi
  have BJ := Lib.hid bj
  go_upto_region 3 with fail
  clear hd hdd hd' hdd' hi hj y0 z0
  obtain ⟨ai, hai⟩ : ∃ n, i.rd.length = n := ⟨_, rfl⟩
  obtain ⟨ci, hci⟩ : ∃ n, i.wt.length = n := ⟨_, rfl⟩
  obtain ⟨aj, haj⟩ : ∃ n, j.rd.length = n := ⟨_, rfl⟩
  obtain ⟨cj, hcj⟩ : ∃ n, j.wt.length = n := ⟨_, rfl⟩
  have k1 := rd_len i
  have k2 := wt_len i
  have k3 := rd_len j
  have k4 := wt_len j
  have CU1' : Hid (∀ w1, Calls Tryd.prog 41 #[i.v] w1 fun e w' => ∃ (A B : Option Addr) (c d : Nat), e = .returned (.tuple #[.slice A ai c, .slice B ci d]) ∧ IntsF w1.heap.size w' A i.rd ∧ IntsF w1.heap.size w' B i.wt ∧ Below w1.heap.size w1 w') := fun w1 => by have := CU1.out w1; unfold RetII at this; rw [hai, hci] at this; exact this
  have CU2' : Hid (∀ w1, Calls Tryd.prog 41 #[j.v] w1 fun e w' => ∃ (A B : Option Addr) (c d : Nat), e = .returned (.tuple #[.slice A aj c, .slice B cj d]) ∧ IntsF w1.heap.size w' A j.rd ∧ IntsF w1.heap.size w' B j.wt ∧ Below w1.heap.size w1 w') := fun w1 => by have := CU2.out w1; unfold RetII at this; rw [haj, hcj] at this; exact this
  rw [hai] at k1
  rw [hci] at k2
  rw [haj] at k3
  rw [hcj] at k4
  have HAI := Lib.hid hai
  have HCI := Lib.hid hci
  have HAJ := Lib.hid haj
  have HCJ := Lib.hid hcj
  clear CU1 CU2 hai hci haj hcj
  go_upto_region 5 with (first
    | ((with_reducible show wpList _ _ _ (Oper.mk (some 20) (.load _ _) _ _ _ _ :: _) _ _); refine ld_ins bi rfl _ rfl rfl ?_)
    | ((with_reducible show wpList _ _ _ (Oper.mk (some 25) (.load _ _) _ _ _ _ :: _) _ _); refine ld_ins bj1 rfl _ rfl rfl ?_)
    | (go_at_call 41; first | ((with_reducible refine (CU1'.out _).mono ?_); rintro e1 w1 ⟨RA, WA, rc, wc, rfl, hra, hwa, hb1⟩; have bj1 := Box.keep bj hb1) | ((with_reducible refine (CU2'.out _).mono ?_); rintro e1 w2 ⟨RB, WB, rd, wd, rfl, hrb, hwb, hb2⟩)))
  have hb12 := below_then hb1 hb2
  have HW2 := Lib.hid (below_then hb0 hb12)
  have BI2 := Lib.hid (Box.keep bi hb12)
  have BJ2 := Lib.hid (Box.keep bj hb12)
  have HRA := Lib.hid (hra.1.grow hb2)
  have HWA := Lib.hid (hwa.1.grow hb2)
  have HRB := Lib.hid hrb.1
  have HWB := Lib.hid hwb.1
  clear hra hwa hrb hwb hb1 hb2 hb12 bi bj bj1 hb0 HB0 BI BJ CU1' CU2'
  go_wp2_with fail
  go_loopw [9] (fun x wr => ∃ k : Nat, k ≤ ci ∧ x = .int .i64 k ∧ Hid ((i.wt.take k).any p1 = false) ∧ Hid (Below w2.heap.size w2 wr)) (fun x _ => ci - (intOf x).toNat)
  case atStart => exact ⟨0, Nat.zero_le _, rfl, Lib.hid rfl, Lib.hid (Below.refl _ _)⟩
  case round =>
    obtain ⟨k, hk, rfl, HK, HBR⟩ := hrel
    by_cases hlt : k < ci
    · obtain ⟨ad, x, rfl, hba, hx, hc, i1, i2⟩ := (HWA.out.grow HBR.out).at_ (k := k) (by rw [HCI.out]; exact hlt)
      have q1 : (0 : Int) ≤ (k : Int) := by omega
      have q2 : (k : Int) < (ci : Int) := by omega
      have wk : IntKind.i64.wrap ((k : Int) + 1) = ((k + 1 : Nat) : Int) := (IntWalk.i64_in _ (by omega)).trans (by omega)
      have HX := Lib.hid hx
      have HXX := Lib.hid (List.mem_of_getElem? hx)
      obtain ⟨X, hX⟩ : ∃ T, j.rd.contains x = T := ⟨_, rfl⟩
      obtain ⟨Y, hY⟩ : ∃ T, j.wt.contains x = T := ⟨_, rfl⟩
      have CX : Hid (∀ w1, Below wr.heap.size wr w1 → Calls Tryd.prog 64 #[.slice RB aj rd, .int .i64 x] w1 fun e w' => e = .returned (.bool X) ∧ w1 = w') := fun w1 hb => by have := r40_has RB j.rd rd aj x w1 HAJ.out (by omega) ((HRB.out.grow HBR.out).grow hb); rw [hX] at this; exact this
      have CY : Hid (∀ w1, Below wr.heap.size wr w1 → Calls Tryd.prog 64 #[.slice WB cj wd, .int .i64 x] w1 fun e w' => e = .returned (.bool Y) ∧ w1 = w') := fun w1 hb => by have := r40_has WB j.wt wd cj x w1 HCJ.out (by omega) ((HWB.out.grow HBR.out).grow hb); rw [hY] at this; exact this
      have HX1 := Lib.hid hX
      have HY1 := Lib.hid hY
      have bi1 := Box.keep BI2.out HBR.out
      have bj1 := Box.keep BJ2.out HBR.out
      have CSi := CS1
      have CSj := CS2
      clear hx hba hX hY
      cases X with
      | true =>
        by_cases e8 : x = 8
        · subst e8
          cases si with
          | false =>
            have HPV : Hid (p1 8 = true) := by rw [HP1.out]; show ((j.rd.contains _ || j.wt.contains _) && !(_ && _ && _)) = _; rw [HX1.out, HY1.out]; first | rfl | (rw [q8]; rfl)
            go_wp2_with (first
              | (go_at_call 64; first | ((with_reducible refine (CX.out _ (Below.refl _ _)).mono ?_); rintro e1 w1 ⟨rfl, rfl⟩) | ((with_reducible refine (CY.out _ (Below.refl _ _)).mono ?_); rintro e1 w1 ⟨rfl, rfl⟩))
              | ((with_reducible show wpList _ _ _ (Oper.mk (some 56) (.load _ _) _ _ _ _ :: _) _ _); refine ld_insW bi1 rfl _ rfl rfl ?_)
              | ((with_reducible show wpList _ _ _ (Oper.mk (some 60) (.load _ _) _ _ _ _ :: _) _ _); refine ld_insW bj2 rfl _ rfl rfl ?_)
              | (go_at_call 65; first | ((with_reducible refine (CSi.out _).mono ?_); rintro e1 w2 ⟨rfl, hb2⟩; have bj2 := Box.keep bj1 hb2) | ((with_reducible refine (CSj.out _).mono ?_); rintro e1 w3 ⟨rfl, hb3⟩)))
            go_ret
            exact ⟨by rw [show R = true from HTRUE1.out _ HXX.out HPV.out]; rfl, below_then HW2.out (below_then HBR.out hb2)⟩
          | true =>
            cases sj with
            | false =>
              have HPV : Hid (p1 8 = true) := by rw [HP1.out]; show ((j.rd.contains _ || j.wt.contains _) && !(_ && _ && _)) = _; rw [HX1.out, HY1.out]; first | rfl | (rw [q8]; rfl)
              go_wp2_with (first
                | (go_at_call 64; first | ((with_reducible refine (CX.out _ (Below.refl _ _)).mono ?_); rintro e1 w1 ⟨rfl, rfl⟩) | ((with_reducible refine (CY.out _ (Below.refl _ _)).mono ?_); rintro e1 w1 ⟨rfl, rfl⟩))
                | ((with_reducible show wpList _ _ _ (Oper.mk (some 56) (.load _ _) _ _ _ _ :: _) _ _); refine ld_insW bi1 rfl _ rfl rfl ?_)
                | ((with_reducible show wpList _ _ _ (Oper.mk (some 60) (.load _ _) _ _ _ _ :: _) _ _); refine ld_insW bj2 rfl _ rfl rfl ?_)
                | (go_at_call 65; first | ((with_reducible refine (CSi.out _).mono ?_); rintro e1 w2 ⟨rfl, hb2⟩; have bj2 := Box.keep bj1 hb2) | ((with_reducible refine (CSj.out _).mono ?_); rintro e1 w3 ⟨rfl, hb3⟩)))
              go_ret
              exact ⟨by rw [show R = true from HTRUE1.out _ HXX.out HPV.out]; rfl, below_then HW2.out (below_then HBR.out (below_then hb2 hb3))⟩
            | true =>
              have HPV : Hid (p1 8 = false) := by rw [HP1.out]; show ((j.rd.contains _ || j.wt.contains _) && !(_ && _ && _)) = _; rw [HX1.out, HY1.out]; first | rfl | (rw [q8]; rfl)
              go_wp2_with (first
                | (go_at_call 64; first | ((with_reducible refine (CX.out _ (Below.refl _ _)).mono ?_); rintro e1 w1 ⟨rfl, rfl⟩) | ((with_reducible refine (CY.out _ (Below.refl _ _)).mono ?_); rintro e1 w1 ⟨rfl, rfl⟩))
                | ((with_reducible show wpList _ _ _ (Oper.mk (some 56) (.load _ _) _ _ _ _ :: _) _ _); refine ld_insW bi1 rfl _ rfl rfl ?_)
                | ((with_reducible show wpList _ _ _ (Oper.mk (some 60) (.load _ _) _ _ _ _ :: _) _ _); refine ld_insW bj2 rfl _ rfl rfl ?_)
                | (go_at_call 65; first | ((with_reducible refine (CSi.out _).mono ?_); rintro e1 w2 ⟨rfl, hb2⟩; have bj2 := Box.keep bj1 hb2) | ((with_reducible refine (CSj.out _).mono ?_); rintro e1 w3 ⟨rfl, hb3⟩)))
              go_roundw
              case rel => exact ⟨k + 1, by omega, rfl, Lib.hid (by show _ = _; rw [take_snoc' HX.out, List.any_append, HK.out]; simp only [List.any_cons, List.any_nil, Bool.false_or, Bool.or_false]; exact HPV.out), Lib.hid (below_then HBR.out (below_then hb2 hb3))⟩
              case measure => simp [intOf]; omega
        · have d8 : decide (x = 8) = false := decide_eq_false e8
          have q8 : (x == 8) = false := by simpa using e8
          have HPV : Hid (p1 x = true) := by rw [HP1.out]; show ((j.rd.contains _ || j.wt.contains _) && !(_ && _ && _)) = _; rw [HX1.out, HY1.out]; first | rfl | (rw [q8]; rfl)
          go_wp2_with (first
            | (go_at_call 64; first | ((with_reducible refine (CX.out _ (Below.refl _ _)).mono ?_); rintro e1 w1 ⟨rfl, rfl⟩) | ((with_reducible refine (CY.out _ (Below.refl _ _)).mono ?_); rintro e1 w1 ⟨rfl, rfl⟩))
            | ((with_reducible show wpList _ _ _ (Oper.mk (some 56) (.load _ _) _ _ _ _ :: _) _ _); refine ld_insW bi1 rfl _ rfl rfl ?_)
            | ((with_reducible show wpList _ _ _ (Oper.mk (some 60) (.load _ _) _ _ _ _ :: _) _ _); refine ld_insW bj2 rfl _ rfl rfl ?_)
            | (go_at_call 65; first | ((with_reducible refine (CSi.out _).mono ?_); rintro e1 w2 ⟨rfl, hb2⟩; have bj2 := Box.keep bj1 hb2) | ((with_reducible refine (CSj.out _).mono ?_); rintro e1 w3 ⟨rfl, hb3⟩)))
          go_ret
          exact ⟨by rw [show R = true from HTRUE1.out _ HXX.out HPV.out]; rfl, below_then HW2.out (below_then HBR.out (Below.refl _ _))⟩
      | false =>
        cases Y with
        | true =>
          by_cases e8 : x = 8
          · subst e8
            cases si with
            | false =>
              have HPV : Hid (p1 8 = true) := by rw [HP1.out]; show ((j.rd.contains _ || j.wt.contains _) && !(_ && _ && _)) = _; rw [HX1.out, HY1.out]; first | rfl | (rw [q8]; rfl)
              go_wp2_with (first
                | (go_at_call 64; first | ((with_reducible refine (CX.out _ (Below.refl _ _)).mono ?_); rintro e1 w1 ⟨rfl, rfl⟩) | ((with_reducible refine (CY.out _ (Below.refl _ _)).mono ?_); rintro e1 w1 ⟨rfl, rfl⟩))
                | ((with_reducible show wpList _ _ _ (Oper.mk (some 56) (.load _ _) _ _ _ _ :: _) _ _); refine ld_insW bi1 rfl _ rfl rfl ?_)
                | ((with_reducible show wpList _ _ _ (Oper.mk (some 60) (.load _ _) _ _ _ _ :: _) _ _); refine ld_insW bj2 rfl _ rfl rfl ?_)
                | (go_at_call 65; first | ((with_reducible refine (CSi.out _).mono ?_); rintro e1 w2 ⟨rfl, hb2⟩; have bj2 := Box.keep bj1 hb2) | ((with_reducible refine (CSj.out _).mono ?_); rintro e1 w3 ⟨rfl, hb3⟩)))
              go_ret
              exact ⟨by rw [show R = true from HTRUE1.out _ HXX.out HPV.out]; rfl, below_then HW2.out (below_then HBR.out hb2)⟩
            | true =>
              cases sj with
              | false =>
                have HPV : Hid (p1 8 = true) := by rw [HP1.out]; show ((j.rd.contains _ || j.wt.contains _) && !(_ && _ && _)) = _; rw [HX1.out, HY1.out]; first | rfl | (rw [q8]; rfl)
                go_wp2_with (first
                  | (go_at_call 64; first | ((with_reducible refine (CX.out _ (Below.refl _ _)).mono ?_); rintro e1 w1 ⟨rfl, rfl⟩) | ((with_reducible refine (CY.out _ (Below.refl _ _)).mono ?_); rintro e1 w1 ⟨rfl, rfl⟩))
                  | ((with_reducible show wpList _ _ _ (Oper.mk (some 56) (.load _ _) _ _ _ _ :: _) _ _); refine ld_insW bi1 rfl _ rfl rfl ?_)
                  | ((with_reducible show wpList _ _ _ (Oper.mk (some 60) (.load _ _) _ _ _ _ :: _) _ _); refine ld_insW bj2 rfl _ rfl rfl ?_)
                  | (go_at_call 65; first | ((with_reducible refine (CSi.out _).mono ?_); rintro e1 w2 ⟨rfl, hb2⟩; have bj2 := Box.keep bj1 hb2) | ((with_reducible refine (CSj.out _).mono ?_); rintro e1 w3 ⟨rfl, hb3⟩)))
                go_ret
                exact ⟨by rw [show R = true from HTRUE1.out _ HXX.out HPV.out]; rfl, below_then HW2.out (below_then HBR.out (below_then hb2 hb3))⟩
              | true =>
                have HPV : Hid (p1 8 = false) := by rw [HP1.out]; show ((j.rd.contains _ || j.wt.contains _) && !(_ && _ && _)) = _; rw [HX1.out, HY1.out]; first | rfl | (rw [q8]; rfl)
                go_wp2_with (first
                  | (go_at_call 64; first | ((with_reducible refine (CX.out _ (Below.refl _ _)).mono ?_); rintro e1 w1 ⟨rfl, rfl⟩) | ((with_reducible refine (CY.out _ (Below.refl _ _)).mono ?_); rintro e1 w1 ⟨rfl, rfl⟩))
                  | ((with_reducible show wpList _ _ _ (Oper.mk (some 56) (.load _ _) _ _ _ _ :: _) _ _); refine ld_insW bi1 rfl _ rfl rfl ?_)
                  | ((with_reducible show wpList _ _ _ (Oper.mk (some 60) (.load _ _) _ _ _ _ :: _) _ _); refine ld_insW bj2 rfl _ rfl rfl ?_)
                  | (go_at_call 65; first | ((with_reducible refine (CSi.out _).mono ?_); rintro e1 w2 ⟨rfl, hb2⟩; have bj2 := Box.keep bj1 hb2) | ((with_reducible refine (CSj.out _).mono ?_); rintro e1 w3 ⟨rfl, hb3⟩)))
                go_roundw
                case rel => exact ⟨k + 1, by omega, rfl, Lib.hid (by show _ = _; rw [take_snoc' HX.out, List.any_append, HK.out]; simp only [List.any_cons, List.any_nil, Bool.false_or, Bool.or_false]; exact HPV.out), Lib.hid (below_then HBR.out (below_then hb2 hb3))⟩
                case measure => simp [intOf]; omega
          · have d8 : decide (x = 8) = false := decide_eq_false e8
            have q8 : (x == 8) = false := by simpa using e8
            have HPV : Hid (p1 x = true) := by rw [HP1.out]; show ((j.rd.contains _ || j.wt.contains _) && !(_ && _ && _)) = _; rw [HX1.out, HY1.out]; first | rfl | (rw [q8]; rfl)
            go_wp2_with (first
              | (go_at_call 64; first | ((with_reducible refine (CX.out _ (Below.refl _ _)).mono ?_); rintro e1 w1 ⟨rfl, rfl⟩) | ((with_reducible refine (CY.out _ (Below.refl _ _)).mono ?_); rintro e1 w1 ⟨rfl, rfl⟩))
              | ((with_reducible show wpList _ _ _ (Oper.mk (some 56) (.load _ _) _ _ _ _ :: _) _ _); refine ld_insW bi1 rfl _ rfl rfl ?_)
              | ((with_reducible show wpList _ _ _ (Oper.mk (some 60) (.load _ _) _ _ _ _ :: _) _ _); refine ld_insW bj2 rfl _ rfl rfl ?_)
              | (go_at_call 65; first | ((with_reducible refine (CSi.out _).mono ?_); rintro e1 w2 ⟨rfl, hb2⟩; have bj2 := Box.keep bj1 hb2) | ((with_reducible refine (CSj.out _).mono ?_); rintro e1 w3 ⟨rfl, hb3⟩)))
            go_ret
            exact ⟨by rw [show R = true from HTRUE1.out _ HXX.out HPV.out]; rfl, below_then HW2.out (below_then HBR.out (Below.refl _ _))⟩
        | false =>
          have HPV : Hid (p1 x = false) := by rw [HP1.out]; show ((j.rd.contains _ || j.wt.contains _) && !(_ && _ && _)) = _; rw [HX1.out, HY1.out]; first | rfl | (rw [q8]; rfl)
          go_wp2_with (first
            | (go_at_call 64; first | ((with_reducible refine (CX.out _ (Below.refl _ _)).mono ?_); rintro e1 w1 ⟨rfl, rfl⟩) | ((with_reducible refine (CY.out _ (Below.refl _ _)).mono ?_); rintro e1 w1 ⟨rfl, rfl⟩))
            | ((with_reducible show wpList _ _ _ (Oper.mk (some 56) (.load _ _) _ _ _ _ :: _) _ _); refine ld_insW bi1 rfl _ rfl rfl ?_)
            | ((with_reducible show wpList _ _ _ (Oper.mk (some 60) (.load _ _) _ _ _ _ :: _) _ _); refine ld_insW bj2 rfl _ rfl rfl ?_)
            | (go_at_call 65; first | ((with_reducible refine (CSi.out _).mono ?_); rintro e1 w2 ⟨rfl, hb2⟩; have bj2 := Box.keep bj1 hb2) | ((with_reducible refine (CSj.out _).mono ?_); rintro e1 w3 ⟨rfl, hb3⟩)))
          go_roundw
          case rel => exact ⟨k + 1, by omega, rfl, Lib.hid (by show _ = _; rw [take_snoc' HX.out, List.any_append, HK.out]; simp only [List.any_cons, List.any_nil, Bool.false_or, Bool.or_false]; exact HPV.out), Lib.hid (below_then HBR.out (Below.refl _ _))⟩
          case measure => simp [intOf]; omega
    · obtain rfl : k = ci := by omega
      have hlo : ¬ (k : Int) < (k : Int) := by omega
      have HF1 : Hid (i.wt.any p1 = false) := by have := HK.out; rw [← HCI.out, List.take_length] at this; exact this
      clear HK hk
      go_upto_region 11 with fail
      go_loopw [10] (fun x wr2 => ∃ m : Nat, m ≤ cj ∧ x = .int .i64 m ∧ Hid ((j.wt.take m).any p2 = false) ∧ Hid (Below w2.heap.size w2 wr2)) (fun x _ => cj - (intOf x).toNat)
      case atStart => exact ⟨0, Nat.zero_le _, rfl, Lib.hid rfl, HBR⟩
      case round =>
        clear HBR
        obtain ⟨wo, hwo⟩ : ∃ wo : World, wo = wr := ⟨_, rfl⟩
        obtain ⟨m, hm, rfl, HM, HBR⟩ := hrel
        by_cases hlt2 : m < cj
        · obtain ⟨ad, x, rfl, hba, hx, hc, i1, i2⟩ := (HWB.out.grow HBR.out).at_ (k := m) (by rw [HCJ.out]; exact hlt2)
          have q1 : (0 : Int) ≤ (m : Int) := by omega
          have q2 : (m : Int) < (cj : Int) := by omega
          have wk : IntKind.i64.wrap ((m : Int) + 1) = ((m + 1 : Nat) : Int) := (IntWalk.i64_in _ (by omega)).trans (by omega)
          have HX := Lib.hid hx
          have HXX := Lib.hid (List.mem_of_getElem? hx)
          obtain ⟨X, hX⟩ : ∃ T, i.rd.contains x = T := ⟨_, rfl⟩
          have CX : Hid (∀ w1, Below wr.heap.size wr w1 → Calls Tryd.prog 64 #[.slice RA ai rc, .int .i64 x] w1 fun e w' => e = .returned (.bool X) ∧ w1 = w') := fun w1 hb => by have := r40_has RA i.rd rc ai x w1 HAI.out (by omega) ((HRA.out.grow HBR.out).grow hb); rw [hX] at this; exact this
          have CY := CX
          have HX1 := Lib.hid hX
          have bi1 := Box.keep BI2.out HBR.out
          have bj1 := Box.keep BJ2.out HBR.out
          have CSi := CS1
          have CSj := CS2
          clear hx hba hX
          cases X with
          | true =>
            by_cases e8 : x = 8
            · subst e8
              cases si with
              | false =>
                have HPV : Hid (p2 8 = true) := by rw [HP2.out]; show (i.rd.contains _ && !(_ && _ && _)) = _; rw [HX1.out]; first | rfl | (rw [q8]; rfl)
                go_wp2_with (first
                  | (go_at_call 64; first | ((with_reducible refine (CX.out _ (Below.refl _ _)).mono ?_); rintro e1 w1 ⟨rfl, rfl⟩) | ((with_reducible refine (CY.out _ (Below.refl _ _)).mono ?_); rintro e1 w1 ⟨rfl, rfl⟩))
                  | ((with_reducible show wpList _ _ _ (Oper.mk (some 84) (.load _ _) _ _ _ _ :: _) _ _); refine ld_insW bi1 rfl _ rfl rfl ?_)
                  | ((with_reducible show wpList _ _ _ (Oper.mk (some 88) (.load _ _) _ _ _ _ :: _) _ _); refine ld_insW bj2 rfl _ rfl rfl ?_)
                  | (go_at_call 65; first | ((with_reducible refine (CSi.out _).mono ?_); rintro e1 w2 ⟨rfl, hb2⟩; have bj2 := Box.keep bj1 hb2) | ((with_reducible refine (CSj.out _).mono ?_); rintro e1 w3 ⟨rfl, hb3⟩)))
                go_ret
                exact ⟨by rw [show R = true from HTRUE2.out _ HXX.out HPV.out]; rfl, below_then HW2.out (below_then HBR.out hb2)⟩
              | true =>
                cases sj with
                | false =>
                  have HPV : Hid (p2 8 = true) := by rw [HP2.out]; show (i.rd.contains _ && !(_ && _ && _)) = _; rw [HX1.out]; first | rfl | (rw [q8]; rfl)
                  go_wp2_with (first
                    | (go_at_call 64; first | ((with_reducible refine (CX.out _ (Below.refl _ _)).mono ?_); rintro e1 w1 ⟨rfl, rfl⟩) | ((with_reducible refine (CY.out _ (Below.refl _ _)).mono ?_); rintro e1 w1 ⟨rfl, rfl⟩))
                    | ((with_reducible show wpList _ _ _ (Oper.mk (some 84) (.load _ _) _ _ _ _ :: _) _ _); refine ld_insW bi1 rfl _ rfl rfl ?_)
                    | ((with_reducible show wpList _ _ _ (Oper.mk (some 88) (.load _ _) _ _ _ _ :: _) _ _); refine ld_insW bj2 rfl _ rfl rfl ?_)
                    | (go_at_call 65; first | ((with_reducible refine (CSi.out _).mono ?_); rintro e1 w2 ⟨rfl, hb2⟩; have bj2 := Box.keep bj1 hb2) | ((with_reducible refine (CSj.out _).mono ?_); rintro e1 w3 ⟨rfl, hb3⟩)))
                  go_ret
                  exact ⟨by rw [show R = true from HTRUE2.out _ HXX.out HPV.out]; rfl, below_then HW2.out (below_then HBR.out (below_then hb2 hb3))⟩
                | true =>
                  have HPV : Hid (p2 8 = false) := by rw [HP2.out]; show (i.rd.contains _ && !(_ && _ && _)) = _; rw [HX1.out]; first | rfl | (rw [q8]; rfl)
                  go_wp2_with (first
                    | (go_at_call 64; first | ((with_reducible refine (CX.out _ (Below.refl _ _)).mono ?_); rintro e1 w1 ⟨rfl, rfl⟩) | ((with_reducible refine (CY.out _ (Below.refl _ _)).mono ?_); rintro e1 w1 ⟨rfl, rfl⟩))
                    | ((with_reducible show wpList _ _ _ (Oper.mk (some 84) (.load _ _) _ _ _ _ :: _) _ _); refine ld_insW bi1 rfl _ rfl rfl ?_)
                    | ((with_reducible show wpList _ _ _ (Oper.mk (some 88) (.load _ _) _ _ _ _ :: _) _ _); refine ld_insW bj2 rfl _ rfl rfl ?_)
                    | (go_at_call 65; first | ((with_reducible refine (CSi.out _).mono ?_); rintro e1 w2 ⟨rfl, hb2⟩; have bj2 := Box.keep bj1 hb2) | ((with_reducible refine (CSj.out _).mono ?_); rintro e1 w3 ⟨rfl, hb3⟩)))
                  go_roundw
                  case rel => exact ⟨m + 1, by omega, rfl, Lib.hid (by show _ = _; rw [take_snoc' HX.out, List.any_append, HM.out]; simp only [List.any_cons, List.any_nil, Bool.false_or, Bool.or_false]; exact HPV.out), Lib.hid (below_then HBR.out (below_then hb2 hb3))⟩
                  case measure => simp [intOf]; omega
            · have d8 : decide (x = 8) = false := decide_eq_false e8
              have q8 : (x == 8) = false := by simpa using e8
              have HPV : Hid (p2 x = true) := by rw [HP2.out]; show (i.rd.contains _ && !(_ && _ && _)) = _; rw [HX1.out]; first | rfl | (rw [q8]; rfl)
              go_wp2_with (first
                | (go_at_call 64; first | ((with_reducible refine (CX.out _ (Below.refl _ _)).mono ?_); rintro e1 w1 ⟨rfl, rfl⟩) | ((with_reducible refine (CY.out _ (Below.refl _ _)).mono ?_); rintro e1 w1 ⟨rfl, rfl⟩))
                | ((with_reducible show wpList _ _ _ (Oper.mk (some 84) (.load _ _) _ _ _ _ :: _) _ _); refine ld_insW bi1 rfl _ rfl rfl ?_)
                | ((with_reducible show wpList _ _ _ (Oper.mk (some 88) (.load _ _) _ _ _ _ :: _) _ _); refine ld_insW bj2 rfl _ rfl rfl ?_)
                | (go_at_call 65; first | ((with_reducible refine (CSi.out _).mono ?_); rintro e1 w2 ⟨rfl, hb2⟩; have bj2 := Box.keep bj1 hb2) | ((with_reducible refine (CSj.out _).mono ?_); rintro e1 w3 ⟨rfl, hb3⟩)))
              go_ret
              exact ⟨by rw [show R = true from HTRUE2.out _ HXX.out HPV.out]; rfl, below_then HW2.out (below_then HBR.out (Below.refl _ _))⟩
          | false =>
            have HPV : Hid (p2 x = false) := by rw [HP2.out]; show (i.rd.contains _ && !(_ && _ && _)) = _; rw [HX1.out]; first | rfl | (rw [q8]; rfl)
            go_wp2_with (first
              | (go_at_call 64; first | ((with_reducible refine (CX.out _ (Below.refl _ _)).mono ?_); rintro e1 w1 ⟨rfl, rfl⟩) | ((with_reducible refine (CY.out _ (Below.refl _ _)).mono ?_); rintro e1 w1 ⟨rfl, rfl⟩))
              | ((with_reducible show wpList _ _ _ (Oper.mk (some 84) (.load _ _) _ _ _ _ :: _) _ _); refine ld_insW bi1 rfl _ rfl rfl ?_)
              | ((with_reducible show wpList _ _ _ (Oper.mk (some 88) (.load _ _) _ _ _ _ :: _) _ _); refine ld_insW bj2 rfl _ rfl rfl ?_)
              | (go_at_call 65; first | ((with_reducible refine (CSi.out _).mono ?_); rintro e1 w2 ⟨rfl, hb2⟩; have bj2 := Box.keep bj1 hb2) | ((with_reducible refine (CSj.out _).mono ?_); rintro e1 w3 ⟨rfl, hb3⟩)))
            go_roundw
            case rel => exact ⟨m + 1, by omega, rfl, Lib.hid (by show _ = _; rw [take_snoc' HX.out, List.any_append, HM.out]; simp only [List.any_cons, List.any_nil, Bool.false_or, Bool.or_false]; exact HPV.out), Lib.hid (below_then HBR.out (Below.refl _ _))⟩
            case measure => simp [intOf]; omega
        · obtain rfl : m = cj := by omega
          have hlo2 : ¬ (m : Int) < (m : Int) := by omega
          have hRf : R = false := by
            have := HM.out
            rw [← HCJ.out, List.take_length] at this
            rw [← HRR.out, HF1.out, this]; rfl
          have HRF := Lib.hid hRf
          clear hRf
          go_wp2_with fail
          go_ret
          exact ⟨by rw [HRF.out]; rfl, below_then HW2.out HBR.out⟩
end Go.Proofs.YtpmbgcfnehplaaaDoor
