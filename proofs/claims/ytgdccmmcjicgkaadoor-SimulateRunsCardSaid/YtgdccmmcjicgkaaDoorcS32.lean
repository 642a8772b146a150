/- The law SimulateRuns. Printed by gen_s32.py. -/
import Derived.Test.YtgdccmmcjicgkaaDoorcS30
import Derived.Test.YtgdccmmcjicgkaaDoorcS31
import Derived.Test.YtgdccmmcjicgkaaDoorcOdtoS26
set_option linter.unusedVariables false
set_option linter.unusedSimpArgs false
namespace Go.Proofs.YtgdccmmcjicgkaaDoor
open Go.RowKit
def smF (b gp : Nat) (L : List Value) (LV XV : Value) (m : Mac) (W : List Int) (wv : Value) (xn : Nat) : Nat → Value → World → Prop
  | 0, v, _ => v = .agg L.toArray
  | 1, v, _ => v = LV
  | 2, v, w => ∃ x : MacA, x.m = m ∧ v = .agg x.lst.toArray ∧ MacAt w x ∧ MacF b w x
  | 3, v, _ => v = .pointer (some ⟨gp, 0, none⟩)
  | 4, v, _ => v = wv
  | 5, v, _ | 6, v, _ => v = XV
  | 7, v, _ => v = .int .i64 (xn : Int)
  | 8, v, w => ∃ A c, v = .slice A xn c ∧ Own b w (.slice A xn c) W
  | 9, v, w => ∃ q, v = .pointer (some ⟨q, 0, none⟩) ∧ Box w q zeros5 ∧ TyAt w q 46 ∧ b ≤ q
  | _, _, _ => True
theorem smF_keep {b gp : Nat} {L : List Value} {LV XV : Value} {m : Mac} {W : List Int} {wv : Value} {xn : Nat} {w w' : World} (h : Below w.heap.size w w') : ∀ i v, smF b gp L LV XV m W wv xn i v w → smF b gp L LV XV m W wv xn i v w'
  | 0, _, e | 1, _, e | 3, _, e | 4, _, e | 5, _, e | 6, _, e | 7, _, e => e
  | 2, _, ⟨x, e1, e2, h1, h2⟩ => ⟨x, e1, e2, h1.grow h, h2.grow h⟩
  | 8, _, ⟨A, c, e, h1⟩ => ⟨A, c, e, h1.grow h⟩
  | 9, _, ⟨q, e, b, t, g⟩ => ⟨q, e, b.keep h, t.grow b.1 h, g⟩
  | n + 10, _, e => e
def rcF (b : Nat) (L Z : List Value) (XV YV : Value) (k : Int) (m : Mac) (OL : List Int) (on : Nat) (V : Int) : Nat → Value → World → Prop
  | 0, v, _ => v = .agg L.toArray
  | 1, v, _ => v = .agg Z.toArray
  | 2, v, _ => v = XV
  | 3, v, _ => v = .int .i64 k
  | 4, v, _ => v = YV
  | 5, v, w | 6, v, w => ∃ (A : Option Addr) (c : Nat) (z : MacA), z.m = m ∧ v = .tuple #[.slice A on c, .agg z.lst.toArray, .int .i64 V, .int .i64 0] ∧ Own b w (.slice A on c) OL ∧ MacAt w z ∧ MacF b w z
  | 7, v, w | 12, v, w => ∃ (A : Option Addr) (c : Nat), v = .slice A on c ∧ Own b w (.slice A on c) OL
  | 8, v, w => ∃ z : MacA, z.m = m ∧ v = .agg z.lst.toArray ∧ MacAt w z ∧ MacF b w z
  | 9, v, _ => v = .int .i64 V
  | 10, v, _ => v = .int .i64 0
  | 11, v, w => ∃ q, v = .pointer (some ⟨q, 0, none⟩) ∧ Box w q zeros5 ∧ TyAt w q 46 ∧ b ≤ q
  | _, _, _ => True
theorem rcF_keep {b : Nat} {L Z : List Value} {XV YV : Value} {k : Int} {m : Mac} {OL : List Int} {on : Nat} {V : Int} {w w' : World} (h : Below w.heap.size w w') : ∀ i v, rcF b L Z XV YV k m OL on V i v w → rcF b L Z XV YV k m OL on V i v w'
  | 0, _, e | 1, _, e | 2, _, e | 3, _, e | 4, _, e | 9, _, e | 10, _, e => e
  | 5, _, ⟨A, c, z, e1, e2, h0, h1, h2⟩ | 6, _, ⟨A, c, z, e1, e2, h0, h1, h2⟩ => ⟨A, c, z, e1, e2, h0.grow h, h1.grow h, h2.grow h⟩
  | 7, _, ⟨A, c, e, h1⟩ | 12, _, ⟨A, c, e, h1⟩ => ⟨A, c, e, h1.grow h⟩
  | 8, _, ⟨z, e1, e2, h1, h2⟩ => ⟨z, e1, e2, h1.grow h, h2.grow h⟩
  | 11, _, ⟨q, e, b, t, g⟩ => ⟨q, e, b.keep h, t.grow b.1 h, g⟩
  | n + 13, _, e => e
theorem app_intsW {ops : Array Oper} {rest : List Oper} {o : Oper} {a : Act} {Q : Exit → Act → World → Prop} (w : World) (hw : Region.wanted o (yielded ops a.tmps) = true) (s x : Operand) (ho : o.op = .call { callee := .builtin .append, args := #[s, x], argTypes := #[32, 32] })
    (base : Nat) {v : Value} {l m : List Int} {A : Option Addr} {c n : Nat} (hs : a.eval s = v) (hx : a.eval x = .slice A n c) (hm : m.length = n) (hown : Own base w v l) (hI : Ints w A m) (hn : l.length + n ≤ 100000000) (hbase : base ≤ w.heap.size)
    (h : ∀ v' w', Own base w' v' (l ++ m) → Below base w w' → wpList Tryd.prog ops Q rest (a.put o.dst v') w') : wpList Tryd.prog ops Q (o :: rest) a w := by
  subst hm
  refine BigFrame.wpList_want hw fun K hK => ?_
  obtain ⟨v', w', hrun, h1, h2, -⟩ := run_app_ints w base o.type v l m A c hown hI hn hbase
  unfold Oper.wp execOp
  simp only [ho, resolve, invoke, builtin, Sem.run_bind, Sem.run_pure, Result.andThen_ok, List.map_toArray, List.map_cons, List.map_nil, hs, hx, hrun]
  exact hK _ _ (h v' w' h1 (own_below (Below.refl _ _) hbase hown.ge h2))
theorem alloc_leS (w : World) (o : Obj) : w.heap.size ≤ (w.alloc o).heap.size := by simp
theorem mlst_one (z : MacA) : z.lst.length = 5 ∧ z.lst.all (·.oneCell') = true := ⟨rfl, rfl⟩
theorem ld_macW {ops : Array Oper} {rest : List Oper} {o : Oper} {a : Act} {Q : Exit → Act → World → Prop} {w : World} {g : Nat} {L : List Value} (hb : Box w g L) (hL : L.length = 5) (hw : Region.wanted o (yielded ops a.tmps) = true) (x : Operand) (ho : o.op = .load 46 x) (hx : a.eval x = .pointer (some ⟨g, 0, none⟩)) (h : wpList Tryd.prog ops Q rest (a.put o.dst (.agg L.toArray)) w) : wpList Tryd.prog ops Q (o :: rest) a w := by
  obtain ⟨d, h1, h2⟩ := row_mac
  exact BigFrame.wpList_want hw fun K hK => wp_load_mid _ x ho g 0 hx L d (Box.range hb (fun j v hj => by rw [Nat.zero_add]; exact hj)) h1 h2 (by rw [hL]; exact size_mac) (hK _ _ h)
set_option maxRecDepth 100000 in
set_option maxHeartbeats 32000000 in
theorem law_SimulateRuns (dd : DraftA) (l i : Option Addr × Nat × List Int) (cut : Int) (w : World) (hf : FormsAt w) (hd : DraftOk w dd) (hl : Ints w l.1 l.2.2 ∧ l.2.2.length ≤ 9223372036854775807) (hi : Ints w i.1 i.2.2 ∧ i.2.2.length ≤ 9223372036854775807) (hcut : I64 cut) :
    Calls Tryd.prog 4 #[dd.v, .slice l.1 l.2.2.length l.2.1, .slice i.1 i.2.2.length i.2.1, .int .i64 cut] w fun e w' => e = .returned (.bool true) ∧ Below w.heap.size w w' := by
  obtain ⟨LA, lc, ll⟩ := l
  obtain ⟨XA, xc, xs⟩ := i
  obtain ⟨hli, hl9⟩ := hl
  obtain ⟨hxi, hx9⟩ := hi
  simp only at hli hl9 hxi hx9 ⊢
  obtain ⟨ln, hln⟩ : ∃ n, ll.length = n := ⟨_, rfl⟩
  obtain ⟨xn, hxn⟩ : ∃ n, xs.length = n := ⟨_, rfl⟩
  rw [hln] at hl9 ⊢
  rw [hxn] at hx9 ⊢
  have CK : Hid (∀ w1, Below w.heap.size w w1 → Calls Tryd.prog 20 #[] w1 fun e w' => e = .returned (.bool true) ∧ Below w1.heap.size w1 w') := Lib.hid fun w1 hb => known39 w1 (hf.grow hb)
  have hent : Below w.heap.size w (w.alloc (.cells #[.int .i64 dd.dn, .int .i64 dd.cn, .slice dd.RA dd.rs.length dd.rc, .slice dd.OA dd.os.length dd.oc, .slice dd.FA dd.fs.length dd.fc] 38)) := (Below.refl _ _).alloc (Nat.le_refl _) _
  have hbox : Box (w.alloc (.cells #[.int .i64 dd.dn, .int .i64 dd.cn, .slice dd.RA dd.rs.length dd.rc, .slice dd.OA dd.os.length dd.oc, .slice dd.FA dd.fs.length dd.fc] 38)) w.heap.size dd.lst := Box.new rfl
  have HENT := Lib.hid hent
  have HBOX := Lib.hid hbox
  by_cases h25 : (25 : Int) < (xn : Int)
  · clear hf hd hli hxi hent hbox
    go_enter Tryd.func4, Tryd.ntmps4
    go_wp2_with (go_at_call 20; (with_reducible refine (CK.out _ HENT.out).mono ?_); rintro e1 w1 ⟨rfl, hb1⟩)
    go_ret
    exact ⟨rfl, below_then HENT.out hb1⟩
  have hx25 : xn ≤ 25 := by omega
  obtain ⟨D, hD⟩ : ∃ x, dd.d 30 = x := ⟨_, rfl⟩
  have hv : validB D = true := by rw [← hD]; exact prgF_valid _ _ _ _ _ 30 (by omega)
  have CP : Hid (∀ w1, Below w.heap.size w w1 → Calls Tryd.prog 21 #[dd.v, .int .i64 30] w1 (RetPrg w1 D)) := Lib.hid fun w1 hb => by
    rw [← hD]; exact dr_Code dd 30 w1 (hd.grow hb) (by omega)
  obtain ⟨M, hM⟩ : ∃ m, macF D ll = m := ⟨_, rfl⟩
  have hmv : macB D M = true := by rw [← hM]; exact macF_valid hv ll
  obtain ⟨-, hmo, hmc, hms⟩ := macB_parts hmv
  obtain ⟨X, hX⟩ : ∃ x, wordsF D.d0 D.d1 D.d2 D.d3 xs xn = x := ⟨_, rfl⟩
  have hXl : X.length = xn := by rw [← hX, wordsF_length]
  have hXw : wordD D X = true := by rw [← hX]; exact wordD_wordsF (valid_words hv).1 xs xn
  have hrl := (valid_rl hv).1
  have hcl := (valid_parts hv).2.2.1
  have CMc : Hid (∀ w1 u, Below w.heap.size w w1 → PrgAt w1 u → u.d = D → Calls Tryd.prog 22 #[.agg u.lst.toArray, .slice LA ln lc] w1 (RetMacW w1 M)) := Lib.hid fun w1 u hb h1 h2 => by
    have h := wd_Machine u LA ll ln lc w1 h1 (by rw [h2]; exact hv) (hli.grow hb) hln
    rw [h2, hM] at h
    exact h
  have CWd : Hid (∀ w1, Below w.heap.size w w1 → Calls Tryd.prog 23 #[wordV D.d0 D.d1 D.d2 D.d3, .slice XA xn xc, .int .i64 (xn : Int)] w1 fun e w' => ∃ v, e = .returned v ∧ Own w1.heap.size w' v X ∧ Below w1.heap.size w1 w') := Lib.hid fun w1 hb => by
    subst hxn
    rw [← hX]
    exact wd_Words _ _ _ _ XA xs xc xs.length w1 (by omega) (hxi.grow hb)
  have CRun : Hid (∀ w1 u (x : MacA) A n c ys, Below w.heap.size w w1 → PrgAt w1 u → u.d = D → MacAt w1 x → macB D x.m = true → Ints w1 A ys → wordD D ys = true → ys.length = n → n ≤ 4096 → Calls Tryd.prog 24 #[.agg u.lst.toArray, .agg x.lst.toArray, .slice A n c] w1 (RetRunR w1 D x.m ys)) := Lib.hid fun w1 u x A n c ys hb h1 h2 h3 h4 h5 h6 h7 h8 => by
    have h := sm_RunR u x A n c ys w1 (hf.grow hb) h1 h3 h5 (by rw [h2]; exact h4) (by rw [h2]; exact h6) h7 h8
    rw [h2] at h
    exact h
  have CRef : Hid (∀ w1 u (x : MacA) A n c ys, PrgAt w1 u → u.d = D → MacAt w1 x → macB D x.m = true → Ints w1 A ys → wordD D ys = true → ys.length = n → n ≤ 4096 → Calls Tryd.prog 25 #[.agg u.lst.toArray, .agg x.lst.toArray, .slice A n c] w1 (RetRunR w1 D x.m ys)) := Lib.hid fun w1 u x A n c ys h1 h2 h3 h4 h5 h6 h7 h8 => by
    have h := r39_Run u x A n c ys w1 h1 h3 h5 (by rw [h2]; exact h4) (by rw [h2]; exact h6) h7 h8
    rw [h2] at h
    exact h
  -- what the cut gives
  obtain ⟨k, hk⟩ : ∃ k : Nat, withinF cut (xn + 1 : Int) = (k : Int) := Int.eq_ofNat_of_zero_le (within_in (by omega) cut).1
  have hk2 : k ≤ xn := by have := (within_in (m := (xn + 1 : Int)) (by omega) cut).2; omega
  have hX12 : X.take k ++ X.drop k = X := List.take_append_drop k X
  have hw1 : wordD D (X.take k) = true := wordD_take hXw k
  have hw2 : wordD D (X.drop k) = true := by
    unfold wordD wordsB at *
    exact List.all_eq_true.2 fun y hy => List.all_eq_true.1 hXw y (List.mem_of_mem_drop hy)
  have hm1 : macB D (runM D M (X.take k)) = true := by
    have hb := runM_time D (X.take k) M
    obtain ⟨a, b⟩ := time_in (l := D.code) hcl.2
    have hst : 0 ≤ stlF D.code := (stlF_pos (valid_fine hv)).1
    have hkl : (X.take k).length ≤ 25 := by rw [List.length_take]; omega
    have h1 := mul_in (a := ((X.take k).length : Int)) (b := cycF D.code) (A := 25) (B := 2048) (by omega) (by omega) a.1 a.2
    have h2 := mul_in (a := ((X.take k).length : Int)) (b := stlF D.code) (A := 25) (B := 2048) (by omega) (by omega) hst (by omega)
    have e0 : M.cyc = 0 ∧ M.stl = 0 := by rw [← hM]; exact ⟨rfl, rfl⟩
    refine macB_mk hv (runM_ok hv _ M hw1 hmo) ?_ ?_
    · rw [hb.1, e0.1]; omega
    · rw [hb.2, e0.2]; omega
  have hrA : runM D (runM D M (X.take k)) (X.drop k) = runM D M X := by rw [← runM_append, hX12]
  have hrO : runO D M (X.take k) ++ runO D (runM D M (X.take k)) (X.drop k) = runO D M X := by rw [← runO_append, hX12]
  have hrV : runV D M (X.take k) + runV D (runM D M (X.take k)) (X.drop k) = runV D M X := by rw [← runV_append, hX12]
  have hmr : M.regs.length ≤ 1000 ∧ M.mem.length ≤ 1000 ∧ M.heads.length ≤ 1000 := ⟨by rw [hmo.rl]; omega, by rw [hmo.ml]; omega, by rw [hmo.hl]; omega⟩
  have hre : ∀ z : MacA, z.m = runM D M X → z.m.regs.length ≤ 1000 ∧ z.m.mem.length ≤ 1000 ∧ z.m.heads.length ≤ 1000 := fun z hz => by
    have h := runM_ok hv X M hXw hmo
    rw [hz]
    exact ⟨by rw [h.rl]; omega, by rw [h.ml]; omega, by rw [h.hl]; omega⟩
  have CSm : Hid (∀ w1 (y z : MacA), MacAt w1 y → MacAt w1 z → y.m = runM D M X → z.m = runM D M X → Calls Tryd.prog 27 #[.agg y.lst.toArray, .agg z.lst.toArray] w1 fun e w' => e = .returned (.bool true) ∧ Below w1.heap.size w1 w') := Lib.hid fun w1 y z h1 h2 h3 h4 => r39_Same y z w1 h1 h2 (h3.trans h4.symm) (hre y h3).1 (hre y h3).2.1 (hre y h3).2.2
  have HXL := Lib.hid hXl
  have HXW := Lib.hid hXw
  have HMV := Lib.hid hmv
  have HW1 := Lib.hid hw1
  have HW2 := Lib.hid hw2
  have HM1 := Lib.hid hm1
  obtain ⟨OL, hOL⟩ : ∃ o, runO D M X = o := ⟨_, rfl⟩
  obtain ⟨V, hV⟩ : ∃ o, runV D M X = o := ⟨_, rfl⟩
  obtain ⟨O1, hO1⟩ : ∃ o, runO D M (X.take k) = o := ⟨_, rfl⟩
  obtain ⟨O2, hO2⟩ : ∃ o, runO D (runM D M (X.take k)) (X.drop k) = o := ⟨_, rfl⟩
  obtain ⟨V1, hV1⟩ : ∃ o, runV D M (X.take k) = o := ⟨_, rfl⟩
  obtain ⟨V2, hV2⟩ : ∃ o, runV D (runM D M (X.take k)) (X.drop k) = o := ⟨_, rfl⟩
  obtain ⟨MK, hMK⟩ : ∃ m, runM D M (X.take k) = m := ⟨_, rfl⟩
  obtain ⟨ME, hME⟩ : ∃ m, runM D M X = m := ⟨_, rfl⟩
  have hol : OL.length = xn := by rw [← hOL, runO_len]; exact hXl
  have hol1 : O1.length = k := by rw [← hO1, runO_len, List.length_take]; omega
  have hol2 : O2.length = xn - k := by rw [← hO2, runO_len, List.length_drop]; omega
  rw [hO1, hO2, hOL] at hrO
  rw [hMK] at hO2 hV2
  rw [hV1, hMK, hV2, hV] at hrV
  rw [hMK, hME] at hrA
  rw [hMK] at HM1
  rw [hME] at CSm
  have hv1 := runV_in D M (X.take k)
  have hv2 := runV_in D MK (X.drop k)
  rw [hV1] at hv1
  rw [hV2] at hv2
  have hvk : (X.take k).length ≤ 25 ∧ (X.drop k).length ≤ 25 := by rw [List.length_take, List.length_drop]; omega
  have wV : IntKind.i64.wrap (V1 + V2) = V1 + V2 := IntWalk.i64_in _ (by omega)
  have HRV := Lib.hid hrV
  have HRO := Lib.hid hrO
  have HOLN := Lib.hid hol
  have HO1N := Lib.hid hol1
  have HO2N := Lib.hid hol2
  have dV : decide (V = V) = true := decide_eq_true rfl
  have bV : (V == V) = true := by simp
  have CR1 : Hid (∀ w1 u (x : MacA) A n c ys, Below w.heap.size w w1 → PrgAt w1 u → u.d = D → MacAt w1 x → x.m = M → Ints w1 A ys → ys = X → ys.length = n → n ≤ 4096 → Calls Tryd.prog 24 #[.agg u.lst.toArray, .agg x.lst.toArray, .slice A n c] w1 fun e w' => ∃ (A : Option Addr) (c : Nat) (z : MacA), z.m = ME ∧ e = .returned (.tuple #[.slice A xn c, .agg z.lst.toArray, .int .i64 V, .int .i64 0]) ∧ Own w1.heap.size w' (.slice A xn c) OL ∧ MacAt w' z ∧ MacF w1.heap.size w' z ∧ Below w1.heap.size w1 w') := Lib.hid fun w1 u x A n c ys hb h1 h2 h3 h4 h5 h6 h7 h8 => by
    subst h6
    have h := CRun.out w1 u x A n c ys hb h1 h2 h3 (by rw [h4]; exact hmv) h5 hXw h7 h8
    unfold RetRunR at h
    rw [h4, hME, hOL, hV, hol] at h
    exact h
  have CR2 : Hid (∀ w1 u (x : MacA) A n c ys, PrgAt w1 u → u.d = D → MacAt w1 x → x.m = M → Ints w1 A ys → ys = X → ys.length = n → n ≤ 4096 → Calls Tryd.prog 25 #[.agg u.lst.toArray, .agg x.lst.toArray, .slice A n c] w1 fun e w' => ∃ (A : Option Addr) (c : Nat) (z : MacA), z.m = ME ∧ e = .returned (.tuple #[.slice A xn c, .agg z.lst.toArray, .int .i64 V, .int .i64 0]) ∧ Own w1.heap.size w' (.slice A xn c) OL ∧ MacAt w' z ∧ MacF w1.heap.size w' z ∧ Below w1.heap.size w1 w') := Lib.hid fun w1 u x A n c ys h1 h2 h3 h4 h5 h6 h7 h8 => by
    subst h6
    have h := CRef.out w1 u x A n c ys h1 h2 h3 (by rw [h4]; exact hmv) h5 hXw h7 h8
    unfold RetRunR at h
    rw [h4, hME, hOL, hV, hol] at h
    exact h
  have CR3 : Hid (∀ w1 u (x : MacA) A c, Below w.heap.size w w1 → PrgAt w1 u → u.d = D → MacAt w1 x → x.m = M → Ints w1 A (X.take k) → Calls Tryd.prog 24 #[.agg u.lst.toArray, .agg x.lst.toArray, .slice A k c] w1 fun e w' => ∃ (A : Option Addr) (c : Nat) (z : MacA), z.m = MK ∧ e = .returned (.tuple #[.slice A k c, .agg z.lst.toArray, .int .i64 V1, .int .i64 0]) ∧ Own w1.heap.size w' (.slice A k c) O1 ∧ MacAt w' z ∧ MacF w1.heap.size w' z ∧ Below w1.heap.size w1 w') := Lib.hid fun w1 u x A c hb h1 h2 h3 h4 h5 => by
    have h := CRun.out w1 u x A k c (X.take k) hb h1 h2 h3 (by rw [h4]; exact hmv) h5 hw1 (by rw [List.length_take]; omega) (by omega)
    unfold RetRunR at h
    rw [h4, hMK, hO1, hV1, hol1] at h
    exact h
  have CR4 : Hid (∀ w1 u (x : MacA) A c, Below w.heap.size w w1 → PrgAt w1 u → u.d = D → MacAt w1 x → x.m = MK → Ints w1 A (X.drop k) → Calls Tryd.prog 24 #[.agg u.lst.toArray, .agg x.lst.toArray, .slice A (xn - k) c] w1 fun e w' => ∃ (A : Option Addr) (c : Nat) (z : MacA), z.m = ME ∧ e = .returned (.tuple #[.slice A (xn - k) c, .agg z.lst.toArray, .int .i64 V2, .int .i64 0]) ∧ Own w1.heap.size w' (.slice A (xn - k) c) O2 ∧ MacAt w' z ∧ MacF w1.heap.size w' z ∧ Below w1.heap.size w1 w') := Lib.hid fun w1 u x A c hb h1 h2 h3 h4 h5 => by
    have h := CRun.out w1 u x A (xn - k) c (X.drop k) hb h1 h2 h3 (by rw [h4]; exact HM1.out) h5 hw2 (by rw [List.length_drop]; omega) (by omega)
    unfold RetRunR at h
    rw [h4, hrA, hO2, hV2, hol2] at h
    exact h
  have CWi : Hid (∀ w1, Calls Tryd.prog 26 #[.int .i64 cut, .int .i64 ((xn : Int) + 1)] w1 fun e w' => e = .returned (.int .i64 (k : Int)) ∧ w1 = w') := Lib.hid fun w1 => hk ▸ wd_Within cut ((xn : Int) + 1) w1 (by omega)
  have wx1 : IntKind.i64.wrap ((xn : Int) + 1) = (xn : Int) + 1 := IntWalk.i64_in _ (by omega)
  have HXI := Lib.hid hxi
  clear hf hd hli hxi hent hbox hv hmv hmo hmc hms hXl hXw hrl hcl hX12 hw1 hw2 hm1 hrA hrO hrV hmr hre hOL hV hO1 hO2 hV1 hV2 hMK hME hol hol1 hol2 hv1 hv2 hvk hk hD hM hX CRun CRef hln hxn
  go_enter Tryd.func4, Tryd.ntmps4
  go_upto_region 3 with fail
  have HE0 := HENT.out
  have HX0 := HBOX.out
  generalize w.alloc (.cells #[.int .i64 dd.dn, .int .i64 dd.cn, .slice dd.RA dd.rs.length dd.rc, .slice dd.OA dd.os.length dd.oc, .slice dd.FA dd.fs.length dd.fc] 38) = w0 at HE0 HX0 ⊢
  have HB0 := Lib.hid HE0
  have HX := Lib.hid HX0
  clear HE0 HX0 HENT HBOX
  go_upto_region 4 with (first
    | ((with_reducible show wpList _ _ _ (Oper.mk _ (.load 38 _) _ _ _ _ :: _) _ _); refine ld_dft HX.out rfl _ rfl rfl ?_)
    | (go_at_call 21; (with_reducible refine (CP.out _ HB0.out).mono ?_); rintro e1 w1 ⟨u, hu, rfl, hat, hb1⟩)
    | ((with_reducible show wpList _ _ _ (Oper.mk none (.store 43 _ _) _ _ _ _ :: _) _ _); refine st_prgB (w := w1.alloc (.cells zeros10.toArray 43)) (M := zeros10) (g := w1.heap.size) (Box.new rfl) rfl (L := u.lst) (lst_ten u) (lst_one u) rfl _ _ rfl rfl rfl ?_; intro W2 b2 p2))
  have hb2 := put_facts ((Below.refl w1.heap.size w1).alloc (Nat.le_refl _) (.cells zeros10.toArray 43)) (Nat.le_refl _) p2
  have HB2 := Lib.hid (below_then (below_then HB0.out hb1) hb2)
  have HP2 := Lib.hid b2
  have HA2 := Lib.hid (hat.grow hb2)
  have HU := Lib.hid hu
  clear hb1 hb2 b2 p2 hat hu CP HX HB0
  generalize w1.heap.size = gp at HP2 ⊢
  -- the machine and the words
  refine wp_region_grow8 (fun x => Nat.blt x 10) (fun _ => false) (fun w' => Below W2.heap.size W2 w') (fun a b => Below a.heap.size a b) (smF W2.heap.size gp u.lst (.slice LA ln lc) (.slice XA xn xc) M X (wordV D.d0 D.d1 D.d2 D.d3) xn) (by kernel_rfl) (by kernel_rfl) (Below.drew (Below.refl _ _)) (fun a b h1 h2 => ⟨below_then h1 h2, fun i _ v => smF_keep h2 i v⟩) (fun w _ => Below.refl _ _) ?_ (fun j o _ _ h => by cases h) ?_
  · refine ⟨?_, ?_, ?_, ?_, ?_, ?_, ?_, ?_, ?_, ?_, trivial⟩
    all_goals
      intro vs w5 hp hF
      have HPX : Hid (Box w5 gp u.lst ∧ PrgAt w5 u ∧ Below w.heap.size w w5) := Lib.hid ⟨HP2.out.keep hp, HA2.out.grow hp, below_then HB2.out hp⟩
      have x0 : w5.cell? ⟨gp, 0, none⟩ = some (.int .i64 D.d0) := by rw [← HU.out]; exact HPX.out.1.2.1 0
      have x1 : w5.cell? ⟨gp, 1, none⟩ = some (.int .i64 D.d1) := by rw [← HU.out]; exact HPX.out.1.2.1 1
      have x2 : w5.cell? ⟨gp, 2, none⟩ = some (.int .i64 D.d2) := by rw [← HU.out]; exact HPX.out.1.2.1 2
      have x3 : w5.cell? ⟨gp, 3, none⟩ = some (.int .i64 D.d3) := by rw [← HU.out]; exact HPX.out.1.2.1 3
      have HQ5 := Lib.hid hp
      clear hp
      simp [depsB, Region.binds, smF] at hF
      simp [stL, depsB, Region.binds, Act.put, hF]
    · refine ld_prg HPX.out.1 (lst_ten u) rfl _ rfl rfl ?_
      exact wpList_nil ⟨rfl, _, rfl, rfl, Below.refl _ _⟩
    · go_wp2_with fail
      exact ⟨rfl, Below.refl _ _⟩
    · go_wp2_with (go_at_call 22; (with_reducible refine (CMc.out _ _ HPX.out.2.2 HPX.out.2.1 HU.out).mono ?_); rintro e6 w6 ⟨x, h1, rfl, h2, h3, hb6⟩)
      first | exact ⟨⟨x, h1, rfl, h2, h3.mono HQ5.out.size⟩, hb6⟩ | exact ⟨x, h1, rfl, h2, h3.mono HQ5.out.size⟩
    · go_wp2_with fail
      exact ⟨rfl, Below.refl _ _⟩
    · go_wp2_with fail
      exact ⟨rfl, Below.refl _ _⟩
    · go_wp2_with fail
      exact ⟨rfl, Below.refl _ _⟩
    · go_wp2_with fail
      exact ⟨rfl, Below.refl _ _⟩
    · go_wp2_with fail
      exact ⟨rfl, Below.refl _ _⟩
    · go_wp2_with (go_at_call 23; (with_reducible refine (CWd.out _ HPX.out.2.2).mono ?_); rintro e6 w6 ⟨v6, rfl, ho6, hb6⟩; obtain ⟨A6, c6, rfl, -⟩ := own_form ho6.1; rw [HXL.out] at ho6 ⊢)
      first | exact ⟨⟨A6, c6, rfl, ho6.base HQ5.out.size⟩, hb6⟩ | exact ⟨A6, c6, rfl, ho6.base HQ5.out.size⟩
    · go_wp2_with fail
      have hbx : Box (w5.alloc (.cells zeros5.toArray 46)) w5.heap.size zeros5 := Box.new rfl
      exact ⟨⟨_, rfl, hbx, ⟨_, _, heap_alloc_new w5 _⟩, HQ5.out.size⟩, Below.alloc (Below.refl _ _) (Nat.le_refl _) _⟩
  intro vs w5 hC hF
  obtain ⟨x, hxm, e2, hxa, hxf⟩ := hF 2 (by decide) rfl
  obtain ⟨XB, xb, e8, hxo⟩ := hF 8 (by decide) rfl
  obtain ⟨gm, e9, hbx, hty, hqb⟩ := hF 9 (by decide) rfl
  have hxlen := (own_form hxo.1)
  show wpList Tryd.prog _ _ [_, _] _ _
  simp [stL, Act.put, e2, e8, e9]
  clear hF e2 e8 e9
  have HXM := Lib.hid hxm
  have HZ0 := Lib.hid (mlst_one x)
  obtain ⟨zl0, hzl⟩ : ∃ l, x.lst = l := ⟨_, rfl⟩
  rw [hzl] at HZ0 ⊢
  have HZE0 := Lib.hid hzl
  clear hzl hxm
  refine st_mac (L := zl0) hbx rfl HZ0.out.1 HZ0.out.2 rfl _ _ rfl rfl rfl ?_
  intro W4 hb4 hg4
  obtain ⟨hxa', -⟩ := hxa.ty hxf hg4 hty
  have hbw := grown_toI hC hg4 hqb
  have hxo' := own_keptI hxo hg4 (own_ne hxo.1 hty (by decide))
  obtain ⟨XC, xc', exl, hxc⟩ := own_form hxo'.1
  have hxcb : X.length ≤ xb := by injection exl with _ _ e3; rw [e3]; exact hxc
  have HXI4 : Hid (Ints W4 XB X ∧ X.length ≤ xb) := Lib.hid ⟨hxo'.ints, hxcb⟩
  have HMA4 := Lib.hid hxa'
  have HMB4 := Lib.hid hb4
  have HP4 := Lib.hid (HP2.out.keep hbw)
  have HA4 := Lib.hid (HA2.out.grow hbw)
  have HB4 := Lib.hid (below_then HB2.out hbw)
  clear hbx hty hqb hxa hxf hxo hxa' hxo' hbw hb4 hg4 hC hxlen exl hxc hxcb HP2 HA2 HB2 CMc CWd
  simp only [Act.put]
  generalize vs 0 = v0
  generalize vs 1 = v1
  generalize vs 3 = v3
  generalize vs 4 = v4
  generalize vs 5 = v5
  generalize vs 6 = v6
  generalize vs 7 = v7
  have hx4 : xn ≤ 4096 := by omega
  -- both runs
  go_upto_region 6 with (first
    | ((with_reducible show wpList _ _ _ (Oper.mk _ (.load 43 _) _ _ _ _ :: _) _ _); refine ld_prg HP4.out (lst_ten u) rfl _ rfl rfl ?_)
    | ((with_reducible show wpList _ _ _ (Oper.mk _ (.load 46 _) _ _ _ _ :: _) _ _); refine ld_mac HMB4.out HZ0.out.1 rfl _ rfl rfl ?_)
    | (go_at_call 24; rw [← HZE0.out]; (with_reducible refine (CR1.out _ _ _ _ _ _ _ HB4.out HA4.out HU.out HMA4.out HXM.out HXI4.out.1 rfl HXL.out hx4).mono ?_); rintro e5 w5 ⟨A5, c5, z5, hz5, rfl, ho5, ha5, hf5, hb5⟩)
    | ((with_reducible show wpList _ _ _ (Oper.mk _ (.store 46 _ _) _ _ _ _ :: _) _ _); refine st_mac (L := z5.lst) (Box.new (w := w5) (t := 46) (vs := zeros5.toArray) rfl) rfl (mlst_one z5).1 (mlst_one z5).2 rfl _ _ rfl rfl rfl ?_; intro W6 hb6 hg6))
  have hb56 := put_facts ((Below.refl w5.heap.size w5).alloc (Nat.le_refl _) (.cells zeros5.toArray 46)) (Nat.le_refl _) hg6
  have hbb := below_then hb5 hb56
  have HB6 := Lib.hid (below_then HB4.out hbb)
  have HP6 := Lib.hid (HP4.out.keep hbb)
  have HA6 := Lib.hid (HA4.out.grow hbb)
  have HMB6 := Lib.hid (HMB4.out.keep hbb)
  have HMA6 := Lib.hid (HMA4.out.grow hbb)
  have HXI6 : Hid (Ints W6 XB X) := Lib.hid (HXI4.out.1.grow hbb)
  have HXC : Hid (X.length ≤ xb) := Lib.hid HXI4.out.2
  have HEB6 := Lib.hid hb6
  have HEA6 := Lib.hid (ha5.grow hb56)
  have HO6 : Hid (Ints W6 A5 OL) := Lib.hid (ho5.ints.grow hb56)
  have HZ5 := Lib.hid hz5
  clear hb5 ha5 hf5 ho5 hz5 hb6 hg6 hb56 hbb HP4 HA4 HMB4 HMA4 HXI4 HB4 CR1
  generalize w5.heap.size = ge at HEB6 ⊢
  go_upto_region 7 with (first
    | ((with_reducible show wpList _ _ _ (Oper.mk _ (.load 43 _) _ _ _ _ :: _) _ _); refine ld_prg HP6.out (lst_ten u) rfl _ rfl rfl ?_)
    | ((with_reducible show wpList _ _ _ (Oper.mk _ (.load 46 _) _ _ _ _ :: _) _ _); refine ld_mac HMB6.out HZ0.out.1 rfl _ rfl rfl ?_)
    | (go_at_call 25; rw [← HZE0.out]; (with_reducible refine (CR2.out _ _ _ _ _ _ _ HA6.out HU.out HMA6.out HXM.out HXI6.out rfl HXL.out hx4).mono ?_); rintro e7 w7 ⟨A7, c7, z7, hz7, rfl, ho7, ha7, hf7, hb7⟩)
    | ((with_reducible show wpList _ _ _ (Oper.mk _ (.store 46 _ _) _ _ _ _ :: _) _ _); refine st_mac (L := z7.lst) (Box.new (w := w7) (t := 46) (vs := zeros5.toArray) rfl) rfl (mlst_one z7).1 (mlst_one z7).2 rfl _ _ rfl rfl rfl ?_; intro W8 hb8 hg8))
  have hb78 := put_facts ((Below.refl w7.heap.size w7).alloc (Nat.le_refl _) (.cells zeros5.toArray 46)) (Nat.le_refl _) hg8
  have hbb := below_then hb7 hb78
  have HB8 := Lib.hid (below_then HB6.out hbb)
  have HP8 := Lib.hid (HP6.out.keep hbb)
  have HA8 := Lib.hid (HA6.out.grow hbb)
  have HMB8 := Lib.hid (HMB6.out.keep hbb)
  have HMA8 := Lib.hid (HMA6.out.grow hbb)
  have HXI8 : Hid (Ints W8 XB X) := Lib.hid (HXI6.out.grow hbb)
  have HEB8 := Lib.hid (HEB6.out.keep hbb)
  have HEA8 := Lib.hid (HEA6.out.grow hbb)
  have HO8 : Hid (Ints W8 A5 OL) := Lib.hid (HO6.out.grow hbb)
  have HLB8 := Lib.hid hb8
  have HLA8 := Lib.hid (ha7.grow hb78)
  have HQ8 : Hid (Ints W8 A7 OL) := Lib.hid (ho7.ints.grow hb78)
  have HZ7 := Lib.hid hz7
  clear hb7 ha7 hf7 ho7 hz7 hb8 hg8 hb78 hbb HP6 HA6 HMB6 HMA6 HXI6 HB6 HEB6 HEA6 HO6 CR2
  generalize w7.heap.size = gl at HLB8 ⊢
  go_upto_region 8 with (go_at_call 26; (with_reducible refine (CWi.out _).mono ?_); rintro e8 w8 ⟨rfl, rfl⟩)
  have HZL0 := HZ0
  have k0 : (0 : Int) ≤ (k : Int) := by omega
  have k1 : (k : Int) ≤ (xn : Int) := by omega
  have k2 : (k : Int) ≤ (xb : Int) := by have := HXC.out; have := HXL.out; omega
  have CR3' : Hid (∀ w1, Below W8.heap.size W8 w1 → Calls Tryd.prog 24 #[.agg u.lst.toArray, .agg zl0.toArray, .slice XB k xb] w1 fun e w' => ∃ (A : Option Addr) (c : Nat) (z : MacA), z.m = MK ∧ e = .returned (.tuple #[.slice A k c, .agg z.lst.toArray, .int .i64 V1, .int .i64 0]) ∧ Own w1.heap.size w' (.slice A k c) O1 ∧ MacAt w' z ∧ MacF w1.heap.size w' z ∧ Below w1.heap.size w1 w') := Lib.hid fun w1 hb => by
    rw [← HZE0.out]
    exact CR3.out w1 u x XB xb (below_then HB8.out hb) (HA8.out.grow hb) HU.out (HMA8.out.grow hb) HXM.out ((HXI8.out.grow hb).takeL k)
  clear CR3
  refine wp_region_grow8 (fun x => Nat.blt x 13) (fun x => Nat.beq x 8 || Nat.beq x 9 || Nat.beq x 10) (fun w2 => Below W8.heap.size W8 w2) (fun a b => Below a.heap.size a b) (rcF W8.heap.size u.lst zl0 (.slice XB xn xb) (.slice XB k xb) (k : Int) MK O1 k V1) (by kernel_rfl) (by kernel_rfl) (Below.drew (Below.refl _ _)) (fun a b h1 h2 => ⟨below_then h1 h2, fun i _ v => rcF_keep h2 i v⟩) (fun w _ => Below.refl _ _) ?_ ?_ ?_
  · refine ⟨?_, ?_, ?_, ?_, ?_, ?_, ?_, ?_, ?_, ?_, ?_, ?_, ?_, trivial⟩
    all_goals
      intro vs w5 hp hF
      have HPX : Hid (Box w5 gp u.lst ∧ Box w5 gm zl0) := Lib.hid ⟨HP8.out.keep hp, HMB8.out.keep hp⟩
      have HQ5 := Lib.hid hp
      clear hp
      simp [depsB, Region.binds, rcF] at hF
      simp [stL, depsB, Region.binds, Act.put, hF]
    · refine ld_prg HPX.out.1 (lst_ten u) rfl _ rfl rfl ?_
      exact wpList_nil ⟨rfl, _, rfl, rfl, Below.refl _ _⟩
    · refine ld_mac HPX.out.2 HZL0.out.1 rfl _ rfl rfl ?_
      exact wpList_nil ⟨rfl, _, rfl, rfl, Below.refl _ _⟩
    · go_wp2_with fail
      exact ⟨rfl, Below.refl _ _⟩
    · go_wp2_with fail
      exact ⟨rfl, Below.refl _ _⟩
    · go_wp2_with fail
      exact ⟨rfl, Below.refl _ _⟩
    · go_wp2_with (go_at_call 24; (with_reducible refine (CR3'.out _ HQ5.out).mono ?_); rintro e6 w6 ⟨A, c, z, h1, rfl, h0, h2, h3, hb6⟩)
      first | exact ⟨⟨A, c, z, h1, rfl, h0.base HQ5.out.size, h2, h3.mono HQ5.out.size⟩, hb6⟩ | exact ⟨A, c, z, h1, rfl, h0.base HQ5.out.size, h2, h3.mono HQ5.out.size⟩
    · obtain ⟨A, c, z, h1, h2, h3, h4, h5⟩ := hF
      go_wp2_with fail
      first | exact ⟨⟨A, c, z, h1, h2, h3, h4, h5⟩, Below.refl _ _⟩ | exact ⟨⟨A, c, z, h1, rfl, h3, h4, h5⟩, Below.refl _ _⟩
    · obtain ⟨A, c, z, h1, h2, h3, h4, h5⟩ := hF
      simp [h2]
      go_wp2_with fail
      exact ⟨⟨A, c, rfl, h3⟩, Below.refl _ _⟩
    · obtain ⟨A, c, z, h1, h2, h3, h4, h5⟩ := hF
      simp [h2]
      go_wp2_with fail
      exact ⟨⟨z, h1, rfl, h4, h5⟩, Below.refl _ _⟩
    · obtain ⟨A, c, z, h1, h2, h3, h4, h5⟩ := hF
      simp [h2]
      go_wp2_with fail
      exact ⟨rfl, Below.refl _ _⟩
    · obtain ⟨A, c, z, h1, h2, h3, h4, h5⟩ := hF
      simp [h2]
      go_wp2_with fail
      exact ⟨rfl, Below.refl _ _⟩
    · go_wp2_with fail
      have hbx : Box (w5.alloc (.cells zeros5.toArray 46)) w5.heap.size zeros5 := Box.new rfl
      exact ⟨⟨_, rfl, hbx, ⟨_, _, heap_alloc_new w5 _⟩, HQ5.out.size⟩, Below.alloc (Below.refl _ _) (Nat.le_refl _) _⟩
    · obtain ⟨⟨A, c, e7, h7⟩, -⟩ := hF
      rw [e7]
      go_wp2_with fail
      exact ⟨⟨A, c, rfl, h7⟩, Below.refl _ _⟩
  · intro j o ho _ hl
    have hj : j = 8 ∨ j = 9 ∨ j = 10 := by simpa [or_assoc] using hl
    intro vs w5 hC hF
    rcases hj with rfl | rfl | rfl
    all_goals
      injection ho with ho
      subst ho
      obtain ⟨A, c, z, h1, h2, h3, h4, h5⟩ := hF 6 (by decide)
    · exact ⟨.agg z.lst.toArray, fun w' => by simp [execOp, stL, depsB, Region.binds, go_sem, Act.put, h2], ⟨z, h1, rfl, h4, h5⟩⟩
    · exact ⟨.int .i64 V1, fun w' => by simp [execOp, stL, depsB, Region.binds, go_sem, Act.put, h2], rfl⟩
    · exact ⟨.int .i64 0, fun w' => by simp [execOp, stL, depsB, Region.binds, go_sem, Act.put, h2], rfl⟩
  intro vs w5 hC hF
  obtain ⟨zA, hzA, e8, hza, hzf⟩ := hF 8 (by decide) rfl
  have e9 : vs 9 = .int .i64 V1 := hF 9 (by decide) rfl
  have e10 : vs 10 = .int .i64 0 := hF 10 (by decide) rfl
  obtain ⟨qA, e11, hbx, hty, hqb⟩ := hF 11 (by decide) rfl
  obtain ⟨OAA, ocA, e12, hoA⟩ := hF 12 (by decide) rfl
  have HZMA := Lib.hid hzA
  have HZOA := Lib.hid (mlst_one zA)
  obtain ⟨zlA, hzl⟩ : ∃ l, zA.lst = l := ⟨_, rfl⟩
  rw [hzl] at e8 HZOA
  have HZEA := Lib.hid hzl
  show wpList Tryd.prog _ _ [_, _, _] _ _
  simp [stL, Act.put, e8, e9, e10, e11, e12]
  clear hF e8 e9 e10 e11 e12 hzl hzA
  refine st_mac (L := zlA) hbx rfl HZOA.out.1 HZOA.out.2 rfl _ _ rfl rfl rfl ?_
  intro WA hbA hgA
  obtain ⟨hza', hzf'⟩ := hza.ty hzf hgA hty
  have HZAA := Lib.hid hza'
  have HXZA := Lib.hid hbA
  have hbwA := grown_toI hC hgA hqb
  have HOA : Hid (Ints WA OAA O1) := Lib.hid (own_keptI hoA hgA (own_ne hoA.1 hty (by decide))).ints
  clear hbx hty hqb hza hzf hza' hzf' hC hbA hgA hoA
  have HB9 := Lib.hid (below_then HB8.out hbwA)
  have HP9 := Lib.hid (HP8.out.keep hbwA)
  have HA9 := Lib.hid (HA8.out.grow hbwA)
  have HXI9 : Hid (Ints WA XB X) := Lib.hid (HXI8.out.grow hbwA)
  have HEB9 := Lib.hid (HEB8.out.keep hbwA)
  have HEA9 := Lib.hid (HEA8.out.grow hbwA)
  have HO9 : Hid (Ints WA A5 OL) := Lib.hid (HO8.out.grow hbwA)
  have HLB9 := Lib.hid (HLB8.out.keep hbwA)
  have HLA9 := Lib.hid (HLA8.out.grow hbwA)
  have HQ9 : Hid (Ints WA A7 OL) := Lib.hid (HQ8.out.grow hbwA)
  clear HB8 HP8 HA8 HXI8 HEB8 HEA8 HO8 HLB8 HLA8 HQ8 HMB8 HMA8
  clear hbwA
  simp only [Act.put]
  generalize vs 0 = vA0
  generalize vs 1 = vA1
  generalize vs 2 = vA2
  generalize vs 3 = vA3
  generalize vs 4 = vA4
  generalize vs 5 = vA5
  generalize vs 6 = vA6
  generalize vs 7 = vA7
  go_upto_region 9 with fail
  have HZLB0 := HZOA
  obtain ⟨YB, hYB⟩ : ∃ B, (if xb = k then XB else XB.map (fun y => y.add k)) = B := ⟨_, rfl⟩
  have HYB := Lib.hid hYB
  clear hYB
  have CR4' : Hid (∀ w1, Below WA.heap.size WA w1 → Calls Tryd.prog 24 #[.agg u.lst.toArray, .agg zlA.toArray, .slice YB (xn - k) (xb - k)] w1 fun e w' => ∃ (A : Option Addr) (c : Nat) (z : MacA), z.m = ME ∧ e = .returned (.tuple #[.slice A (xn - k) c, .agg z.lst.toArray, .int .i64 V2, .int .i64 0]) ∧ Own w1.heap.size w' (.slice A (xn - k) c) O2 ∧ MacAt w' z ∧ MacF w1.heap.size w' z ∧ Below w1.heap.size w1 w') := Lib.hid fun w1 hb => by
    rw [← HZEA.out]
    exact CR4.out w1 u zA _ (xb - k) (below_then HB9.out hb) (HA9.out.grow hb) HU.out (HZAA.out.grow hb) HZMA.out (by rw [← HYB.out]; exact Ints.dropL (HXI9.out.grow hb) HXC.out)
  clear CR4
  refine wp_region_grow8 (fun x => Nat.blt x 13) (fun x => Nat.beq x 8 || Nat.beq x 9 || Nat.beq x 10) (fun w2 => Below WA.heap.size WA w2) (fun a b => Below a.heap.size a b) (rcF WA.heap.size u.lst zlA (.slice XB xn xb) (.slice YB (xn - k) (xb - k)) (k : Int) ME O2 (xn - k) V2) (by kernel_rfl) (by kernel_rfl) (Below.drew (Below.refl _ _)) (fun a b h1 h2 => ⟨below_then h1 h2, fun i _ v => rcF_keep h2 i v⟩) (fun w _ => Below.refl _ _) ?_ ?_ ?_
  · refine ⟨?_, ?_, ?_, ?_, ?_, ?_, ?_, ?_, ?_, ?_, ?_, ?_, ?_, trivial⟩
    all_goals
      intro vs w5 hp hF
      have HPX : Hid (Box w5 gp u.lst ∧ Box w5 qA zlA) := Lib.hid ⟨HP9.out.keep hp, HXZA.out.keep hp⟩
      have HQ5 := Lib.hid hp
      clear hp
      simp [depsB, Region.binds, rcF] at hF
      simp [stL, depsB, Region.binds, Act.put, hF]
    · refine ld_prg HPX.out.1 (lst_ten u) rfl _ rfl rfl ?_
      exact wpList_nil ⟨rfl, _, rfl, rfl, Below.refl _ _⟩
    · refine ld_mac HPX.out.2 HZLB0.out.1 rfl _ rfl rfl ?_
      exact wpList_nil ⟨rfl, _, rfl, rfl, Below.refl _ _⟩
    · go_wp2_with fail
      exact ⟨rfl, Below.refl _ _⟩
    · go_wp2_with fail
      exact ⟨rfl, Below.refl _ _⟩
    · have hY := HYB.out
      by_cases hxk : xb = k
      · rw [if_pos hxk] at hY
        subst hY
        have hxk' := Lib.hid hxk
        clear hxk
        go_wp2_with fail
        all_goals first
          | exact ⟨rfl, Below.refl _ _⟩
          | (exfalso; have := hxk'.out; omega)
      · rw [if_neg hxk] at hY
        subst hY
        have hxk' := Lib.hid hxk
        clear hxk
        go_wp2_with fail
        all_goals first
          | exact ⟨rfl, Below.refl _ _⟩
          | (exfalso; have := hxk'.out; omega)
    · go_wp2_with (go_at_call 24; (with_reducible refine (CR4'.out _ HQ5.out).mono ?_); rintro e6 w6 ⟨A, c, z, h1, rfl, h0, h2, h3, hb6⟩)
      first | exact ⟨⟨A, c, z, h1, rfl, h0.base HQ5.out.size, h2, h3.mono HQ5.out.size⟩, hb6⟩ | exact ⟨A, c, z, h1, rfl, h0.base HQ5.out.size, h2, h3.mono HQ5.out.size⟩
    · obtain ⟨A, c, z, h1, h2, h3, h4, h5⟩ := hF
      go_wp2_with fail
      first | exact ⟨⟨A, c, z, h1, h2, h3, h4, h5⟩, Below.refl _ _⟩ | exact ⟨⟨A, c, z, h1, rfl, h3, h4, h5⟩, Below.refl _ _⟩
    · obtain ⟨A, c, z, h1, h2, h3, h4, h5⟩ := hF
      simp [h2]
      go_wp2_with fail
      exact ⟨⟨A, c, rfl, h3⟩, Below.refl _ _⟩
    · obtain ⟨A, c, z, h1, h2, h3, h4, h5⟩ := hF
      simp [h2]
      go_wp2_with fail
      exact ⟨⟨z, h1, rfl, h4, h5⟩, Below.refl _ _⟩
    · obtain ⟨A, c, z, h1, h2, h3, h4, h5⟩ := hF
      simp [h2]
      go_wp2_with fail
      exact ⟨rfl, Below.refl _ _⟩
    · obtain ⟨A, c, z, h1, h2, h3, h4, h5⟩ := hF
      simp [h2]
      go_wp2_with fail
      exact ⟨rfl, Below.refl _ _⟩
    · go_wp2_with fail
      have hbx : Box (w5.alloc (.cells zeros5.toArray 46)) w5.heap.size zeros5 := Box.new rfl
      exact ⟨⟨_, rfl, hbx, ⟨_, _, heap_alloc_new w5 _⟩, HQ5.out.size⟩, Below.alloc (Below.refl _ _) (Nat.le_refl _) _⟩
    · obtain ⟨⟨A, c, e7, h7⟩, -⟩ := hF
      rw [e7]
      go_wp2_with fail
      exact ⟨⟨A, c, rfl, h7⟩, Below.refl _ _⟩
  · intro j o ho _ hl
    have hj : j = 8 ∨ j = 9 ∨ j = 10 := by simpa [or_assoc] using hl
    intro vs w5 hC hF
    rcases hj with rfl | rfl | rfl
    all_goals
      injection ho with ho
      subst ho
      obtain ⟨A, c, z, h1, h2, h3, h4, h5⟩ := hF 6 (by decide)
    · exact ⟨.agg z.lst.toArray, fun w' => by simp [execOp, stL, depsB, Region.binds, go_sem, Act.put, h2], ⟨z, h1, rfl, h4, h5⟩⟩
    · exact ⟨.int .i64 V2, fun w' => by simp [execOp, stL, depsB, Region.binds, go_sem, Act.put, h2], rfl⟩
    · exact ⟨.int .i64 0, fun w' => by simp [execOp, stL, depsB, Region.binds, go_sem, Act.put, h2], rfl⟩
  intro vs w5 hC hF
  obtain ⟨zB, hzB, e8, hza, hzf⟩ := hF 8 (by decide) rfl
  have e9 : vs 9 = .int .i64 V2 := hF 9 (by decide) rfl
  have e10 : vs 10 = .int .i64 0 := hF 10 (by decide) rfl
  obtain ⟨qB, e11, hbx, hty, hqb⟩ := hF 11 (by decide) rfl
  obtain ⟨OAB, ocB, e12, hoB⟩ := hF 12 (by decide) rfl
  have HZMB := Lib.hid hzB
  have HZOB := Lib.hid (mlst_one zB)
  obtain ⟨zlB, hzl⟩ : ∃ l, zB.lst = l := ⟨_, rfl⟩
  rw [hzl] at e8 HZOB
  have HZEB := Lib.hid hzl
  show wpList Tryd.prog _ _ [_, _, _] _ _
  simp [stL, Act.put, e8, e9, e10, e11, e12]
  clear hF e8 e9 e10 e11 e12 hzl hzB
  refine st_mac (L := zlB) hbx rfl HZOB.out.1 HZOB.out.2 rfl _ _ rfl rfl rfl ?_
  intro WB hbB hgB
  obtain ⟨hza', hzf'⟩ := hza.ty hzf hgB hty
  have HZAB := Lib.hid hza'
  have HXZB := Lib.hid hbB
  have hbwB := grown_toI hC hgB hqb
  have HOB : Hid (Ints WB OAB O2) := Lib.hid (own_keptI hoB hgB (own_ne hoB.1 hty (by decide))).ints
  clear hbx hty hqb hza hzf hza' hzf' hC hbB hgB hoB
  have HBA := Lib.hid (below_then HB9.out hbwB)
  have HEBA := Lib.hid (HEB9.out.keep hbwB)
  have HEAA := Lib.hid (HEA9.out.grow hbwB)
  have HOA' : Hid (Ints WB A5 OL) := Lib.hid (HO9.out.grow hbwB)
  have HLBA := Lib.hid (HLB9.out.keep hbwB)
  have HLAA := Lib.hid (HLA9.out.grow hbwB)
  have HQA' : Hid (Ints WB A7 OL) := Lib.hid (HQ9.out.grow hbwB)
  have HOAA : Hid (Ints WB OAA O1) := Lib.hid (HOA.out.grow hbwB)
  clear HB9 HP9 HA9 HXI9 HEB9 HEA9 HO9 HLB9 HLA9 HQ9 HXZA HZAA HOA
  clear hbwB
  simp only [Act.put]
  generalize vs 0 = vB0
  generalize vs 1 = vB1
  generalize vs 2 = vB2
  generalize vs 3 = vB3
  generalize vs 4 = vB4
  generalize vs 5 = vB5
  generalize vs 6 = vB6
  generalize vs 7 = vB7
  go_upto_region 10 with fail
  have CS1 : Hid (∀ w1 A B c d, Ints w1 A OL → Ints w1 B OL → Calls Tryd.prog 19 #[.slice A xn c, .slice B xn d] w1 fun e w' => e = .returned (.bool true) ∧ Below w1.heap.size w1 w') := Lib.hid fun w1 A B c d h1 h2 => rf_SameN A B OL OL c d xn xn w1 HOLN.out HOLN.out (by omega) rfl h1 h2
  have hxk : 0 + k ≤ 100000000 ∧ k + (xn - k) ≤ 100000000 := by omega
  have HXK := Lib.hid hxk
  have HXK2 : Hid (O1.length + (xn - k) ≤ 100000000) := by rw [HO1N.out]; exact Lib.hid hxk.2
  have wV2 : IntKind.i64.wrap (V1 + V2) = V := wV.trans HRV.out
  clear hxk wV
  go_wp2_with (first
    | (go_at_call 20; (with_reducible refine (CK.out _ HBA.out).mono ?_); rintro e9 w9 ⟨rfl, hb9⟩)
    | (go_at_call 19; first
      | ((with_reducible refine (CS1.out _ _ _ _ _ (HOA'.out.grow hb9) (HQA'.out.grow hb9)).mono ?_); rintro e10 w10 ⟨rfl, hb10⟩; have hb910 := below_then hb9 hb10)
      | ((with_reducible refine (CS1.out _ _ _ _ _ ho14.ints (HOA'.out.grow hb914)).mono ?_); rintro e15 w15 ⟨rfl, hb15⟩; have hb915 := below_then hb914 hb15))
    | ((with_reducible show wpList _ _ _ (Oper.mk (some 112) (.load 46 _) _ _ _ _ :: _) _ _); refine ld_macW (HEBA.out.keep hb910) (mlst_one z5).1 rfl _ rfl rfl ?_)
    | ((with_reducible show wpList _ _ _ (Oper.mk (some 113) (.load 46 _) _ _ _ _ :: _) _ _); refine ld_macW (HLBA.out.keep hb910) (mlst_one z7).1 rfl _ rfl rfl ?_)
    | ((with_reducible show wpList _ _ _ (Oper.mk (some 131) (.load 46 _) _ _ _ _ :: _) _ _); rw [← HZEB.out]; refine ld_macW ((HZEB.out ▸ HXZB.out).keep hb915) (mlst_one zB).1 rfl _ rfl rfl ?_)
    | ((with_reducible show wpList _ _ _ (Oper.mk (some 132) (.load 46 _) _ _ _ _ :: _) _ _); refine ld_macW (HEBA.out.keep hb915) (mlst_one z5).1 rfl _ rfl rfl ?_)
    | (go_at_call 27; first
      | ((with_reducible refine (CSm.out _ _ _ (HEAA.out.grow hb910) (HLAA.out.grow hb910) HZ5.out HZ7.out).mono ?_); rintro e11 w11 ⟨rfl, hb11⟩; have hb911 := below_then hb910 hb11)
      | ((with_reducible refine (CSm.out _ _ _ (HZAB.out.grow hb915) (HEAA.out.grow hb915) HZMB.out HZ5.out).mono ?_); rintro e16 w16 ⟨rfl, hb16⟩; have hb916 := below_then hb915 hb16))
    | ((with_reducible show wpList _ _ _ (Oper.mk (some 124) _ _ _ _ _ :: _) _ _); have hb912 := hb911.alloc hb911.size (.cells #[] 3); refine app_intsW (w11.alloc (.cells #[] 3)) rfl _ _ rfl w11.heap.size rfl rfl HO1N.out emp1 (HOAA.out.grow hb912) HXK.out.1 (alloc_leS _ _) ?_; intro v13 w13 ho13 hb13; have hb913 := hb912.trans (hb13.mono hb911.size); rw [List.nil_append] at ho13; have hs13 := Nat.le_trans (alloc_leS w11 (.cells #[] 3)) hb13.size)
    | ((with_reducible show wpList _ _ _ (Oper.mk (some 126) _ _ _ _ _ :: _) _ _); refine app_intsW w13 rfl _ _ rfl w11.heap.size rfl rfl HO2N.out ho13 (HOB.out.grow hb913) HXK2.out hs13 ?_; intro v14 w14 ho14 hb14; have hb914 := hb913.trans (hb14.mono hb911.size); rw [HRO.out] at ho14; obtain ⟨A14, c14, e14, -⟩ := own_form ho14.1; subst e14; rw [HOLN.out] at ho14 ⊢))
  go_ret
  exact ⟨rfl, below_then HBA.out hb916⟩
end Go.Proofs.YtgdccmmcjicgkaaDoor
