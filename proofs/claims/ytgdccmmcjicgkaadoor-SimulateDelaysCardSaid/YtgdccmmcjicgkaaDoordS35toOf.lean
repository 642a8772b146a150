/- Several texts in one: S35 Of. -/
import Derived.Test.YtgdccmmcjicgkaaDoordS30toS31
import Derived.Test.YtgdccmmcjicgkaaDoordE5toC
import Derived.Test.YtgdccmmcjicgkaaDoordYxtoU5
import Derived.Test.YtgdccmmcjicgkaaDoordE1toI0
import Derived.ProofKit
import Derived.LaidMore
import Derived.OpenShut
import Derived.MakeChecks
set_option linter.unusedVariables false
set_option linter.unusedSimpArgs false
section
namespace Go.Proofs.YtgdccmmcjicgkaaDoor
open Go.RowKit
def delF (b : Nat) (W C : Int × Int × Int × Int) (n : Int) : Nat → Value → World → Prop
  | 0, v, _ => v = wordT W
  | 1, v, _ => v = wordT C
  | 2, v, _ => v = .int .i64 n
  | 3, v, _ => v = .agg #[.int .i64 30, .int .i64 n]
  | 4, v, w => ∃ q, v = .slice (some ⟨q, 0, none⟩) 1 1 ∧ RingsAt w (some ⟨q, 0, none⟩) [(30, n)] ∧ TyAt w q 64
  | 5, v, _ => v = (⟨9, 0, 0, 0⟩ : Ins).v
  | 6, v, _ => v = (⟨8, 0, 0, 0⟩ : Ins).v
  | 7, v, _ => v = (⟨0, 0, 0, 0⟩ : Ins).v
  | 8, v, w => ∃ q, v = .slice (some ⟨q, 0, none⟩) 3 3 ∧ InsAt w (some ⟨q, 0, none⟩) [⟨9, 0, 0, 0⟩, ⟨8, 0, 0, 0⟩, ⟨0, 0, 0, 0⟩] ∧ TyAt w q 24
  | 9, v, w => ∃ q q', v = .agg (prgL W.1 W.2.1 W.2.2.1 W.2.2.2 C.1 C.2.1 C.2.2.1 C.2.2.2 (.slice (some ⟨q, 0, none⟩) 1 1) (.slice (some ⟨q', 0, none⟩) 3 3)).toArray ∧ RingsAt w (some ⟨q, 0, none⟩) [(30, n)] ∧ TyAt w q 64 ∧ InsAt w (some ⟨q', 0, none⟩) [⟨9, 0, 0, 0⟩, ⟨8, 0, 0, 0⟩, ⟨0, 0, 0, 0⟩] ∧ TyAt w q' 24
  | 10, v, w => ∃ q, v = .pointer (some ⟨q, 0, none⟩) ∧ Box w q zeros10 ∧ TyAt w q 43 ∧ b ≤ q
  | _, _, _ => True
theorem delF_keep {b : Nat} {W C : Int × Int × Int × Int} {n : Int} {w w' : World} (h : Below w.heap.size w w') : ∀ i v, delF b W C n i v w → delF b W C n i v w'
  | 0, _, e | 1, _, e | 2, _, e | 3, _, e | 5, _, e | 6, _, e | 7, _, e => e
  | 4, _, ⟨q, e, h1, h2⟩ => ⟨q, e, h1.grow h, h2.grow h2.lt h⟩
  | 8, _, ⟨q, e, h1, h2⟩ => ⟨q, e, h1.grow h, h2.grow h2.lt h⟩
  | 9, _, ⟨q, q', e, h1, h2, h3, h4⟩ => ⟨q, q', e, h1.grow h, h2.grow h2.lt h, h3.grow h, h4.grow h4.lt h⟩
  | 10, _, ⟨q, e, h1, h2, h3⟩ => ⟨q, e, h1.keep h, h2.grow h2.lt h, h3⟩
  | n + 11, _, e => e
theorem del_word {W C : Int × Int × Int × Int} {n : Nat} {xs : List Int} {m : Mac} (hv : validB (delD W C n) = true) (hm : macB (delD W C n) m = true) (h : Del n xs m) {k : Nat} (hk : k < n) : wrdV (delD W C n) m 0 k = xs.reverse.getD k 0 ∧ wrdE (delD W C n) m 0 k = 0 := by
  have ho : wokB (delD W C n) m 0 k = true := by
    unfold wokB
    rw [hm, show rgA (delD W C n) 0 = (30, (n : Int)) from rfl, show (delD W C n).rg.length = 1 from rfl, decide_eq_true (by omega : (0 : Int) ≤ (k : Int)), decide_eq_true (by show (k : Int) < (n : Int); omega : (k : Int) < ((30, (n : Int)) : Int × Int).2)]
    rfl
  unfold wrdV wrdE
  rw [if_pos hv, if_pos ho, if_pos hv, if_pos ho]
  refine ⟨?_, rfl⟩
  rw [← h.at_ k hk]
  rfl
theorem row_wrd : ∃ d, Tryd.prog.underlying 40 = some d ∧ d.isRow = true := ⟨_, Tryd.underlying40, rfl⟩
theorem size_wrd : (Tryd.prog.info? 40).map (·.size) = some 4 := by kernel_rfl
abbrev wordL (d0 d1 d2 d3 : Int) : List Value := [.int .i64 d0, .int .i64 d1, .int .i64 d2, .int .i64 d3]
theorem ld_wrd {ops : Array Oper} {rest : List Oper} {o : Oper} {a : Act} {Q : Exit → Act → World → Prop} {w : World} {g : Nat} {L : List Value} (hb : Box w g L) (hL : L.length = 4) (hgd : o.guard = none) (x : Operand) (ho : o.op = .load 40 x) (hx : a.eval x = .pointer (some ⟨g, 0, none⟩)) (h : wpList Tryd.prog ops Q rest (a.put o.dst (.agg L.toArray)) w) : wpList Tryd.prog ops Q (o :: rest) a w := by
  obtain ⟨d, h1, h2⟩ := row_wrd
  exact wp_ld hgd _ x ho g 0 hx hb L (fun j v hj => by rw [Nat.zero_add]; exact hj) d h1 h2 (by rw [hL]; exact size_wrd) h
theorem st_wrd {ops : Array Oper} {rest : List Oper} {o : Oper} {a : Act} {Q : Exit → Act → World → Prop} {w : World} {L M : List Value} {g : Nat} (hb : Box w g M) (hM : M.length = 4) (hL : L.length = 4) (h1 : L.all (·.oneCell') = true) (hgd : o.guard = none) (x y : Operand) (ho : o.op = .store 40 x y) (hx : a.eval x = .pointer (some ⟨g, 0, none⟩)) (hy : a.eval y = .agg L.toArray)
    (h : ∀ W1, Box W1 g L → w.grownBy W1 (some g) → wpList Tryd.prog ops Q rest (a.put o.dst undef) W1) : wpList Tryd.prog ops Q (o :: rest) a w :=
  wp_st hgd _ x y ho g 0 L hx hy (by rw [hL]; exact size_wrd) h1 hb (by rw [hM, hL]; exact Nat.le_refl _) (by rw [List.take_zero, List.nil_append, List.drop_eq_nil_of_le (by rw [hM, hL]; exact Nat.le_refl _), List.append_nil]) h
theorem built_prg4 (a0 a1 a2 a3 c0 c1 c2 c3 : Int) (A B : Option Addr) (an ac bn bc : Nat) : Tryd.prog.built 43 [(0, wordV a0 a1 a2 a3), (1, wordV c0 c1 c2 c3), (2, .slice A an ac), (3, .slice B bn bc)] = some (prgL a0 a1 a2 a3 c0 c1 c2 c3 (.slice A an ac) (.slice B bn bc)).toArray := by kernel_rfl
set_option maxRecDepth 100000 in
set_option maxHeartbeats 16000000 in
theorem law_SimulateDelays (len dat : Int) (i : Option Addr × Nat × List Int) (w : World) (hf : FormsAt w) (hlen : I64 len) (hdat : I64 dat) (hi : Ints w i.1 i.2.2 ∧ i.2.2.length ≤ 9223372036854775807) :
    Calls Tryd.prog 7 #[.int .i64 len, .int .i64 dat, .slice i.1 i.2.2.length i.2.1] w fun e w' => e = .returned (.bool true) ∧ Below w.heap.size w w' := by
  obtain ⟨XA, xc, xs⟩ := i
  obtain ⟨hxi, hx9⟩ := hi
  simp only at hxi hx9 ⊢
  obtain ⟨xn, hxn⟩ : ∃ n, xs.length = n := ⟨_, rfl⟩
  rw [hxn] at hx9 ⊢
  have CK : Hid (∀ w1, Below w.heap.size w w1 → Calls Tryd.prog 20 #[] w1 fun e w' => e = .returned (.bool true) ∧ Below w1.heap.size w1 w') := Lib.hid fun w1 hb => known39 w1 (hf.grow hb)
  by_cases h60 : (60 : Int) < (xn : Int)
  · clear hf hxi
    go_enter Tryd.func7, Tryd.ntmps7
    go_wp2_with (go_at_call 20; (with_reducible refine (CK.out _ (Below.refl _ _)).mono ?_); rintro e1 w1 ⟨rfl, hb1⟩)
    go_ret
    exact ⟨rfl, hb1⟩
  have hx60 : xn ≤ 60 := by omega
  obtain ⟨n, hn⟩ : ∃ k : Nat, withinF len 20 = (k : Int) := Int.eq_ofNat_of_zero_le (within_in (by omega) len).1
  have hn20 : n < 20 := by have := (within_in (m := 20) (by omega) len).2; omega
  have CWi : Hid (∀ w1, Calls Tryd.prog 26 #[.int .i64 len, .int .i64 20] w1 fun e w' => e = .returned (.int .i64 (n : Int)) ∧ w1 = w') := Lib.hid fun w1 => hn ▸ wd_Within len 20 w1 (by omega)
  obtain ⟨N, hN⟩ : ∃ N : Nat, n + 1 = N := ⟨_, rfl⟩
  have hN1 : 1 ≤ N := by omega
  have hN20 : N ≤ 20 := by omega
  have wN : IntKind.i64.wrap (1 + (n : Int)) = (N : Int) := by rw [show 1 + (n : Int) = (N : Int) by omega]; exact IntWalk.i64_in _ (by omega)
  have hw := mkWD_ok dat
  have hc := mkWC_ok 0
  have CD : Hid (∀ w1, Calls Tryd.prog 33 #[.int .i64 dat] w1 fun e w' => e = .returned (wordT (mkW dat 6 12 2)) ∧ Below w1.heap.size w1 w') := Lib.hid fun w1 => wd_Data dat w1
  have CC : Hid (∀ w1, Calls Tryd.prog 34 #[.int .i64 0] w1 fun e w' => e = .returned (wordT (mkW 0 6 9 1)) ∧ Below w1.heap.size w1 w') := Lib.hid fun w1 => wd_Coef 0 w1
  obtain ⟨W, hW⟩ : ∃ W, mkW dat 6 12 2 = W := ⟨_, rfl⟩
  obtain ⟨C, hC⟩ : ∃ C, mkW 0 6 9 1 = C := ⟨_, rfl⟩
  rw [hW] at hw CD
  rw [hC] at hc CC
  have hv : validB (delD W C N) = true := delD_valid hw hc (by omega) (by omega)
  obtain ⟨X, hX⟩ : ∃ x, wordsF W.1 W.2.1 W.2.2.1 W.2.2.2 xs xn = x := ⟨_, rfl⟩
  have hXl : X.length = xn := by rw [← hX, wordsF_length]
  have hXw : wordD (delD W C N) X = true := by rw [← hX]; exact wordD_wordsF (valid_words hv).1 xs xn
  have CW : Hid (∀ w1, Below w.heap.size w w1 → Calls Tryd.prog 23 #[wordV W.1 W.2.1 W.2.2.1 W.2.2.2, .slice XA xn xc, .int .i64 (xn : Int)] w1 fun e w' => ∃ v, e = .returned v ∧ Own w1.heap.size w' v X ∧ Below w1.heap.size w1 w') := Lib.hid fun w1 hb => by
    subst hxn
    rw [← hX]
    exact wd_Words _ _ _ _ XA xs xc xs.length w1 (by omega) (hxi.grow hb)
  have hdel : Del N X (runM (delD W C N) (mac0 (delD W C N)) X) := by
    have h := del_run (w := W) (c := C) hN1 hN20 X [] _ (del_zero (w := W) (c := C) hN1)
    rw [List.nil_append] at h
    exact h
  have hmv := mac0_valid hv
  have hme : macB (delD W C N) (runM (delD W C N) (mac0 (delD W C N)) X) = true := by
    have hb := runM_time (delD W C N) X (mac0 (delD W C N))
    obtain ⟨a, b⟩ := time_in (l := (delD W C N).code) (by show 3 ≤ 512; decide)
    have hst : 0 ≤ stlF (delD W C N).code := (stlF_pos (valid_fine hv)).1
    have h1 := mul_in (a := (X.length : Int)) (b := cycF (delD W C N).code) (A := 60) (B := 2048) (by omega) (by omega) a.1 a.2
    have h2 := mul_in (a := (X.length : Int)) (b := stlF (delD W C N).code) (A := 60) (B := 2048) (by omega) (by omega) hst (by omega)
    have e0 : (mac0 (delD W C N)).cyc = 0 ∧ (mac0 (delD W C N)).stl = 0 := ⟨rfl, rfl⟩
    refine macB_mk hv (runM_ok hv _ _ hXw (mac0_ok hv)) ?_ ?_
    · rw [hb.1, e0.1]; omega
    · rw [hb.2, e0.2]; omega
  have hwd : ∀ k, k < N → wrdV (delD W C N) (runM (delD W C N) (mac0 (delD W C N)) X) 0 k = X.reverse.getD k 0 ∧ wrdE (delD W C N) (runM (delD W C N) (mac0 (delD W C N)) X) 0 k = 0 := fun k hk => del_word hv hme hdel hk
  have hlm := (macB_parts hme).2.1
  have hlm9 : MacLen (runM (delD W C N) (mac0 (delD W C N)) X) := ⟨by rw [hlm.rl]; omega, by rw [hlm.ml]; omega, by rw [hlm.hl]; show 1 ≤ _; omega⟩
  obtain ⟨D, hD⟩ : ∃ d, delD W C N = d := ⟨_, rfl⟩
  have hcl : D.rg.length = 1 ∧ D.code.length = 3 := by rw [← hD]; exact ⟨rfl, rfl⟩
  obtain ⟨M, hM⟩ : ∃ m, mac0 D = m := ⟨_, rfl⟩
  obtain ⟨ME, hME⟩ : ∃ m, runM D M X = m := ⟨_, rfl⟩
  rw [hD] at hv hXw hmv hwd hlm9
  rw [hM] at hmv hwd hlm9
  rw [hME] at hwd hlm9
  have CS : Hid (∀ w1 v, Below w.heap.size w w1 → PrgAt w1 v → v.d = D → Calls Tryd.prog 32 #[.agg v.lst.toArray] w1 fun e w' => ∃ x : MacA, x.m = M ∧ e = .returned (.tuple #[.agg x.lst.toArray, .int .i64 0]) ∧ MacAt w' x ∧ Below w1.heap.size w1 w') := Lib.hid fun w1 v hb h1 h2 => by
    have h := sm_Start v w1 (hf.grow hb) h1 (by rw [h2]; omega) (by rw [h2]; omega)
    unfold RetMacE startM startE at h
    rw [h2, if_pos hv, if_pos hv, hM] at h
    exact h
  obtain ⟨OL, hOL⟩ : ∃ o, runO D M X = o := ⟨_, rfl⟩
  obtain ⟨V, hV⟩ : ∃ o, runV D M X = o := ⟨_, rfl⟩
  have hol : OL.length = xn := by rw [← hOL, runO_len]; exact hXl
  have CR : Hid (∀ w1 v (x : MacA) A c, Below w.heap.size w w1 → PrgAt w1 v → v.d = D → MacAt w1 x → x.m = M → Ints w1 A X → Calls Tryd.prog 24 #[.agg v.lst.toArray, .agg x.lst.toArray, .slice A xn c] w1 fun e w' => ∃ (A : Option Addr) (c : Nat) (z : MacA), z.m = ME ∧ e = .returned (.tuple #[.slice A xn c, .agg z.lst.toArray, .int .i64 V, .int .i64 0]) ∧ MacAt w' z ∧ Below w1.heap.size w1 w') := Lib.hid fun w1 v x A c hb h1 h2 h3 h4 h5 => by
    have h := sm_RunR v x A xn c X w1 (hf.grow hb) h1 h3 h5 (by rw [h2, h4]; exact hmv) (by rw [h2]; exact hXw) hXl (by omega)
    unfold RetRunR at h
    rw [h2, h4, hME, hOL, hV, hol] at h
    refine h.mono ?_
    rintro e w' ⟨A, c, z, h1, h2, h3, h4, h5, h6⟩
    exact ⟨A, c, z, h1, h2, h4, h6⟩
  have CWo : Hid (∀ w1 v (z : MacA) (k : Nat), Below w.heap.size w w1 → PrgAt w1 v → v.d = D → MacAt w1 z → z.m = ME → k < N → Calls Tryd.prog 35 #[.agg v.lst.toArray, .agg z.lst.toArray, .int .i64 0, .int .i64 (k : Int)] w1 fun e w' => e = .returned (.tuple #[.int .i64 (X.reverse.getD k 0), .int .i64 0]) ∧ Below w1.heap.size w1 w') := Lib.hid fun w1 v z k hb h1 h2 h3 h4 h5 => by
    have h := sm_Word v z 0 (k : Int) w1 (hf.grow hb) h1 h3 (by rw [h2]; omega) (by rw [h2]; omega) (by rw [h4]; exact hlm9)
    rw [h2, h4, (hwd k h5).1, (hwd k h5).2] at h
    exact h
  have HXL := Lib.hid hXl
  have HD := Lib.hid hD
  have HCL : Hid (W.1 = W.1) := Lib.hid rfl
  clear hf hxi hv hmv hme hXl hXw hcl hdel hwd hlm hlm9 hOL hV hME hol hM hX hxn hw hc hW hC hD HCL hlen hdat
  go_enter Tryd.func7, Tryd.ntmps7
  go_upto_region 4 with (go_at_call 26; (with_reducible refine (CWi.out _).mono ?_); rintro e1 w1 ⟨rfl, rfl⟩)
  have ewd : wordT W = .agg (wordL W.1 W.2.1 W.2.2.1 W.2.2.2).toArray := rfl
  go_upto_region 5 with (first
    | (go_at_call 33; (with_reducible refine (CD.out _).mono ?_); rintro e2 w2 ⟨rfl, hb2⟩)
    | ((with_reducible show wpList _ _ _ (Oper.mk none (.store 40 _ _) _ _ _ _ :: _) _ _); refine st_wrd (w := w2.alloc (.cells (wordL 0 0 0 0).toArray 40)) (M := wordL 0 0 0 0) (g := w2.heap.size) (Box.new rfl) rfl (L := wordL W.1 W.2.1 W.2.2.1 W.2.2.2) rfl rfl rfl _ _ rfl rfl rfl ?_; intro W3 b3 p3))
  have hb3 := put_facts ((Below.refl w2.heap.size w2).alloc (Nat.le_refl _) (.cells (wordL 0 0 0 0).toArray 40)) (Nat.le_refl _) p3
  have HB3 := Lib.hid (below_then hb2 hb3)
  have HW3 := Lib.hid b3
  clear hb2 hb3 b3 p3 CD CWi ewd
  generalize w2.heap.size = gw at HW3 ⊢
  -- the program
  refine wp_region_grow8 (fun x => Nat.blt x 11) (fun _ => false) (fun w' => Below W3.heap.size W3 w') (fun a b => Below a.heap.size a b) (delF W3.heap.size W C (N : Int)) (by kernel_rfl) (by kernel_rfl) (Below.drew (Below.refl _ _)) (fun a b h1 h2 => ⟨below_then h1 h2, fun i _ v => delF_keep h2 i v⟩) (fun w _ => Below.refl _ _) ?_ (fun j o _ _ h => by cases h) ?_
  · refine ⟨?_, ?_, ?_, ?_, ?_, ?_, ?_, ?_, ?_, ?_, ?_, trivial⟩
    all_goals
      intro vs w5 hp hF
      have HWX := Lib.hid (HW3.out.keep hp)
      have HQ5 := Lib.hid hp
      clear hp
      simp [depsB, Region.binds, delF] at hF
      simp [stL, depsB, Region.binds, Act.put, hF]
    · refine ld_wrd HWX.out rfl rfl _ rfl rfl ?_
      exact wpList_nil ⟨rfl, _, rfl, rfl, Below.refl _ _⟩
    · go_wp2_with (go_at_call 34; (with_reducible refine (CC.out _).mono ?_); rintro e6 w6 ⟨rfl, hb6⟩)
      first | exact ⟨rfl, hb6⟩ | rfl
    · go_wp2_with fail
      exact ⟨rfl, Below.refl _ _⟩
    · go_wp2_with fail
      exact ⟨rfl, Below.refl _ _⟩
    · refine bld_ring1 (i := (30, (N : Int))) rfl _ rfl rfl ?_
      obtain ⟨A, c, e, -, h1⟩ := (OwnRg.single (w := w5) (i := (30, (N : Int))) ⟨⟨by simp only; decide, by simp only; decide⟩, ⟨by omega, by omega⟩⟩).form
      injection e with e1 e2 e3
      subst e1
      exact wpList_nil ⟨rfl, _, rfl, ⟨_, rfl, h1, ⟨_, _, heap_alloc_new w5 _⟩⟩, Below.alloc (Below.refl _ _) (Nat.le_refl _) _⟩
    · go_wp2_with fail
      exact ⟨rfl, Below.refl _ _⟩
    · go_wp2_with fail
      exact ⟨rfl, Below.refl _ _⟩
    · go_wp2_with fail
      exact ⟨rfl, Below.refl _ _⟩
    · refine bld_ins3 ⟨9, 0, 0, 0⟩ ⟨8, 0, 0, 0⟩ ⟨0, 0, 0, 0⟩ rfl _ _ _ rfl rfl rfl rfl ?_
      exact wpList_nil ⟨rfl, _, rfl, ⟨_, rfl, InsAt.lit (by unfold Ins.ok I64; decide), ⟨_, _, heap_alloc_new w5 _⟩⟩, litI_below w5 _⟩
    · obtain ⟨e0, e1, ⟨q, e4, hr, ht⟩, ⟨q', e8, hr', ht'⟩⟩ := hF
      rw [e4, e8]
      refine wp_bldR rfl 43 _ rfl _ rfl (built_prg4 W.1 W.2.1 W.2.2.1 W.2.2.2 C.1 C.2.1 C.2.2.1 C.2.2.2 (some ⟨q, 0, none⟩) (some ⟨q', 0, none⟩) 1 1 3 3) ?_
      exact wpList_nil ⟨rfl, _, rfl, ⟨q, q', rfl, hr, ht, hr', ht'⟩, Below.refl _ _⟩
    · go_wp2_with fail
      have hbx : Box (w5.alloc (.cells zeros10.toArray 43)) w5.heap.size zeros10 := Box.new rfl
      exact ⟨⟨_, rfl, hbx, ⟨_, _, heap_alloc_new w5 _⟩, HQ5.out.size⟩, Below.alloc (Below.refl _ _) (Nat.le_refl _) _⟩
  intro vs w5 hC hF
  obtain ⟨qr, qc, e9, hr, ht, hr', ht'⟩ := hF 9 (by decide) rfl
  obtain ⟨gp, e10, hbx, hty, hqb⟩ := hF 10 (by decide) rfl
  clear hF
  show wpList Tryd.prog _ _ [_] _ _
  simp [stL, Act.put, e9, e10]
  clear e9 e10
  refine st_prgB (M := zeros10) hbx rfl (L := prgL W.1 W.2.1 W.2.2.1 W.2.2.2 C.1 C.2.1 C.2.2.1 C.2.2.2 (.slice (some ⟨qr, 0, none⟩) 1 1) (.slice (some ⟨qc, 0, none⟩) 3 3)) rfl rfl rfl _ _ rfl rfl rfl ?_
  intro W6 hb6 hg6
  have hbw := grown_toI hC hg6 hqb
  have hr6 := hr.grown hg6 (fun a ha he => by injection ha with ha; subst ha; injection he with he; exact (ht.apart hty (by decide)) he)
  have hr6' := hr'.grown hg6 (fun a ha he => by injection ha with ha; subst ha; injection he with he; exact (ht'.apart hty (by decide)) he)
  obtain ⟨v, hvd⟩ : ∃ v : PrgA, v = ⟨delD W C N, some ⟨qr, 0, none⟩, some ⟨qc, 0, none⟩, 1, 3⟩ := ⟨_, rfl⟩
  have HU : Hid (v.d = D) := by rw [hvd]; exact HD
  have HP6 : Hid (Box W6 gp v.lst) := by rw [hvd]; exact Lib.hid hb6
  have HA6 : Hid (PrgAt W6 v) := by rw [hvd]; exact Lib.hid ⟨hr6, hr6'⟩
  have HB6 := Lib.hid (below_then HB3.out hbw)
  have HW6 := Lib.hid (HW3.out.keep hbw)
  clear hbx hty hqb hr ht hr' ht' hr6 hr6' hb6 hg6 hbw hC hvd HB3 HW3 CC HD
  simp only [Act.put]

  generalize vs 0 = v0
  generalize vs 1 = v1
  generalize vs 2 = v2
  generalize vs 3 = v3
  generalize vs 4 = v4
  generalize vs 5 = v5
  generalize vs 6 = v6
  generalize vs 7 = v7
  generalize vs 8 = v8
  -- the words
  go_upto_region 7 with (first
    | ((with_reducible show wpList _ _ _ (Oper.mk _ (.load 40 _) _ _ _ _ :: _) _ _); refine ld_wrd HW6.out rfl rfl _ rfl rfl ?_)
    | (go_at_call 23; (with_reducible refine (CW.out _ HB6.out).mono ?_); rintro e7 w7 ⟨v7', rfl, ho7, hb7⟩; obtain ⟨XB, xb, rfl, -⟩ := own_form ho7.1; rw [HXL.out] at ho7 ⊢))
  have HB7 := Lib.hid (below_then HB6.out hb7)
  have HP7 := Lib.hid (HP6.out.keep hb7)
  have HA7 := Lib.hid (HA6.out.grow hb7)
  have HXI7 : Hid (Ints w7 XB X) := Lib.hid ho7.ints
  clear ho7 hb7 HB6 HP6 HA6 HW6 CW
  -- Start
  go_upto_region 8 with (first
    | ((with_reducible show wpList _ _ _ (Oper.mk _ (.load 43 _) _ _ _ _ :: _) _ _); refine ld_prg HP7.out (lst_ten v) rfl _ rfl rfl ?_)
    | (go_at_call 32; (with_reducible refine (CS.out _ _ HB7.out HA7.out HU.out).mono ?_); rintro e8 w8 ⟨x8, hx8, rfl, ha8, hb8⟩)
    | ((with_reducible show wpList _ _ _ (Oper.mk _ (.store 46 _ _) _ _ _ _ :: _) _ _); refine st_mac (L := x8.lst) (Box.new (w := w8) (t := 46) (vs := zeros5.toArray) rfl) rfl rfl rfl rfl _ _ rfl rfl rfl ?_; intro W9 hb9 hg9))
  have hb89 := put_facts ((Below.refl w8.heap.size w8).alloc (Nat.le_refl _) (.cells zeros5.toArray 46)) (Nat.le_refl _) hg9
  have hbb := below_then hb8 hb89
  have HB9 := Lib.hid (below_then HB7.out hbb)
  have HP9 := Lib.hid (HP7.out.keep hbb)
  have HA9 := Lib.hid (HA7.out.grow hbb)
  have HXI9 : Hid (Ints W9 XB X) := Lib.hid (HXI7.out.grow hbb)
  have HMB9 := Lib.hid hb9
  have HMA9 := Lib.hid (ha8.grow hb89)
  have HXM := Lib.hid hx8
  clear hb8 ha8 hx8 hb9 hg9 hb89 hbb HB7 HP7 HA7 HXI7 CS
  generalize w8.heap.size = gm at HMB9 ⊢
  -- Run
  go_upto_region 9 with (first
    | ((with_reducible show wpList _ _ _ (Oper.mk _ (.load 43 _) _ _ _ _ :: _) _ _); refine ld_prg HP9.out (lst_ten v) rfl _ rfl rfl ?_)
    | ((with_reducible show wpList _ _ _ (Oper.mk _ (.load 46 _) _ _ _ _ :: _) _ _); refine ld_mac HMB9.out rfl rfl _ rfl rfl ?_)
    | (go_at_call 24; (with_reducible refine (CR.out _ _ _ _ _ HB9.out HA9.out HU.out HMA9.out HXM.out HXI9.out).mono ?_); rintro e10 w10 ⟨A10, c10, z10, hz10, rfl, ha10, hb10⟩)
    | ((with_reducible show wpList _ _ _ (Oper.mk _ (.store 46 _ _) _ _ _ _ :: _) _ _); refine st_mac (L := z10.lst) (Box.new (w := w10) (t := 46) (vs := zeros5.toArray) rfl) rfl rfl rfl rfl _ _ rfl rfl rfl ?_; intro W11 hb11 hg11))
  have hb1011 := put_facts ((Below.refl w10.heap.size w10).alloc (Nat.le_refl _) (.cells zeros5.toArray 46)) (Nat.le_refl _) hg11
  have hbb := below_then hb10 hb1011
  have HB11 := Lib.hid (below_then HB9.out hbb)
  have HP11 := Lib.hid (HP9.out.keep hbb)
  have HA11 := Lib.hid (HA9.out.grow hbb)
  have HXI11 : Hid (Ints W11 XB X) := Lib.hid (HXI9.out.grow hbb)
  have HEB11 := Lib.hid hb11
  have HEA11 := Lib.hid (ha10.grow hb1011)
  have HZM := Lib.hid hz10
  clear hb10 ha10 hz10 hb11 hg11 hb1011 hbb HB9 HP9 HA9 HXI9 HMB9 HMA9 HXM CR
  generalize w10.heap.size = ge at HEB11 ⊢
  go_upto_block 0 with fail
  go_wp2_with fail
  go_loopw [17] (fun y wr => ∃ k : Nat, k ≤ N ∧ y = .int .i64 k ∧ Hid (Below w.heap.size w wr) ∧ Hid (Box wr gp v.lst) ∧ Hid (PrgAt wr v) ∧ Hid (Ints wr XB X) ∧ Hid (Box wr ge z10.lst) ∧ Hid (MacAt wr z10)) (fun y _ => N - (intOf y).toNat)
  case atStart => exact ⟨0, Nat.zero_le _, rfl, HB11, HP11, HA11, HXI11, HEB11, HEA11⟩
  case round =>
    obtain ⟨k, hk, rfl, HBk, HPk, HAk, HXk, HEk, HMk⟩ := hrel
    by_cases hlt : k < N
    · have q1 : (0 : Int) ≤ (k : Int) := by omega
      have q2 : (k : Int) < (N : Int) := by omega
      have wk : IntKind.i64.wrap ((k : Int) + 1) = ((k + 1 : Nat) : Int) := (IntWalk.i64_in _ (by omega)).trans (by omega)
      obtain ⟨y, hy⟩ : ∃ y, X.reverse.getD k 0 = y := ⟨_, rfl⟩
      have CWk : Hid (∀ w1, Below wr.heap.size wr w1 → Calls Tryd.prog 35 #[.agg v.lst.toArray, .agg z10.lst.toArray, .int .i64 0, .int .i64 (k : Int)] w1 fun e w' => e = .returned (.tuple #[.int .i64 y, .int .i64 0]) ∧ Below w1.heap.size w1 w') := Lib.hid fun w1 hb => by
        rw [← hy]
        exact CWo.out w1 v z10 k (below_then HBk.out hb) (HAk.out.grow hb) HU.out (HMk.out.grow hb) HZM.out hlt
      have d1 : decide (y = y) = true := decide_eq_true rfl
      have d2 : (y == y) = true := by simp
      have d3 : (y != y) = false := by simp
      by_cases hkx : k < xn
      · have hj : xn - 1 - k < xn := by omega
        obtain ⟨j, hjj⟩ : ∃ j, xn - 1 - k = j := ⟨_, rfl⟩
        rw [hjj] at hj
        obtain ⟨ad, y', hA, hbk, hy', hcc, i1, i2⟩ := HXk.out.at_ (k := j) (by rw [HXL.out]; exact hj)
        have eyy : y' = y := by
          rw [← hy, List.getD_eq_getElem?_getD, List.getElem?_reverse (by rw [HXL.out]; exact hkx), HXL.out, hjj, hy']
          rfl
        subst eyy
        subst hA
        have s1 : IntKind.i64.wrap ((xn : Int) - 1) = (xn : Int) - 1 := IntWalk.i64_in _ (by omega)
        have s2 : IntKind.i64.wrap ((xn : Int) - 1 - (k : Int)) = (j : Int) := (IntWalk.i64_in _ (by omega)).trans (by omega)
        have s3 : (0 : Int) ≤ (j : Int) := by omega
        have s4 : (j : Int) < (xn : Int) := by omega
        have s5 : (k : Int) < (xn : Int) := by omega
        clear hbk hy' hjj
        go_wp2_with (first
          | ((with_reducible show wpList _ _ _ (Oper.mk _ (.load 43 _) _ _ _ _ :: _) _ _); refine ld_prg HPk.out (lst_ten v) rfl _ rfl rfl ?_)
          | ((with_reducible show wpList _ _ _ (Oper.mk _ (.load 46 _) _ _ _ _ :: _) _ _); refine ld_mac HEk.out rfl rfl _ rfl rfl ?_)
          | (go_at_call 35; (with_reducible refine (CWk.out _ (Below.refl _ _)).mono ?_); rintro e12 w12 ⟨rfl, hb12⟩))
        go_roundw
        case rel => exact ⟨k + 1, by omega, by go_num, Lib.hid (below_then HBk.out hb12), Lib.hid (HPk.out.keep hb12), Lib.hid (HAk.out.grow hb12), Lib.hid (HXk.out.grow hb12), Lib.hid (HEk.out.keep hb12), Lib.hid (HMk.out.grow hb12)⟩
        case measure => simp [intOf]; omega
      · have hy0 : y = 0 := by
          rw [← hy, List.getD_eq_getElem?_getD, List.getElem?_eq_none (by rw [List.length_reverse, HXL.out]; omega)]
          rfl
        subst hy0
        have s5 : ¬ (k : Int) < (xn : Int) := by omega
        go_wp2_with (first
          | ((with_reducible show wpList _ _ _ (Oper.mk _ (.load 43 _) _ _ _ _ :: _) _ _); refine ld_prg HPk.out (lst_ten v) rfl _ rfl rfl ?_)
          | ((with_reducible show wpList _ _ _ (Oper.mk _ (.load 46 _) _ _ _ _ :: _) _ _); refine ld_mac HEk.out rfl rfl _ rfl rfl ?_)
          | (go_at_call 35; (with_reducible refine (CWk.out _ (Below.refl _ _)).mono ?_); rintro e12 w12 ⟨rfl, hb12⟩))
        go_roundw
        case rel => exact ⟨k + 1, by omega, by go_num, Lib.hid (below_then HBk.out hb12), Lib.hid (HPk.out.keep hb12), Lib.hid (HAk.out.grow hb12), Lib.hid (HXk.out.grow hb12), Lib.hid (HEk.out.keep hb12), Lib.hid (HMk.out.grow hb12)⟩
        case measure => simp [intOf]; omega
    · obtain rfl : k = N := by omega
      have q2 : ¬ (k : Int) < (k : Int) := by omega
      go_wp2_with (go_at_call 20; (with_reducible refine (CK.out _ HBk.out).mono ?_); rintro e13 w13 ⟨rfl, hb13⟩)
      go_ret
      exact ⟨rfl, below_then HBk.out hb13⟩
end Go.Proofs.YtgdccmmcjicgkaaDoor
end
section
set_option maxRecDepth 100000
namespace Go.Proofs.YtgdccmmcjicgkaaDoor
open Go.Joins Go.ChangeShapes Go.WideShapes Go.RowKit Go.Deep
theorem gForms : Tryd.prog.globalNamed "dspcompiler/processor.forms" = some 0 := by kernel_rfl
theorem tForms : (Tryd.prog.globals[0]?).map (·.type) = some 134 := by kernel_rfl
theorem trod_form {H : Type} {enc : TypeId × Value → H} {w : World} {base fuel : Nat} {sp : Nat → Bool} {hd : Bool} {cs : List Value} {y : DataW H × List MemPlace}
    (hf : DataW.trod enc Tryd.prog w base sp hd fuel 133 cs = some y) :
    ∃ (s : ByteArray) (a b c : Int), cs = [.string s, .int .i64 a, .int .i64 b, .int .i64 c] ∧ y.1 = .agg [.lit (.string s.data.toList), .agg [.lit (.int .i64 a), .lit (.int .i64 b), .lit (.int .i64 c)]] := by
  obtain ⟨y0, y1, n, rfl, hl, h0, h1⟩ := trod_struct2 Tryd.underlying133 hf
  have kf : Tryd.prog.cellsOf 133 = 4 := by kernel_rfl
  have ks : Tryd.prog.cellsOf 9 = 1 := by kernel_rfl
  have ka : Tryd.prog.cellsOf 131 = 3 := by kernel_rfl
  have ki : Tryd.prog.cellsOf 3 = 1 := by kernel_rfl
  rw [kf] at hl
  match cs, hl with
  | [v0, v1, v2, v3], _ =>
    simp [ks, ka] at h0 h1
    obtain ⟨s, e0, f0, -⟩ := DataW.trod_string Tryd.underlying9 h0
    obtain ⟨xs, m, -, rfl, -, hlen, hel⟩ := DataW.trod_array Tryd.underlying131 h1
    have g0 := hel 0 (by decide)
    have g1 := hel 1 (by decide)
    have g2 := hel 2 (by decide)
    obtain ⟨y0, q0⟩ := get_lt hlen (i := 0) (by decide)
    obtain ⟨y1, q1⟩ := get_lt hlen (i := 1) (by decide)
    obtain ⟨y2, q2⟩ := get_lt hlen (i := 2) (by decide)
    rw [q0] at g0
    rw [q1] at g1
    rw [q2] at g2
    simp [ki] at g0 g1 g2
    obtain ⟨a, e1, f1, -⟩ := DataW.trod_int Tryd.underlying3 g0
    obtain ⟨b, e2, f2, -⟩ := DataW.trod_int Tryd.underlying3 g1
    obtain ⟨c, e3, f3, -⟩ := DataW.trod_int Tryd.underlying3 g2
    simp at e0 e1 e2 e3
    subst e0 e1 e2 e3 f0
    refine ⟨s, a, b, c, rfl, ?_⟩
    match xs, hlen, q0, q1, q2 with
    | [z0, z1, z2], _, q0, q1, q2 =>
      simp at q0 q1 q2
      subst q0 q1 q2 f1 f2 f3
      rfl
theorem forms_of_laid {W : World} {d : DataW Unit} (hd : d = .agg [.agg [.lit (.string [104, 97, 108, 116]), .agg [.lit (.int .i64 0), .lit (.int .i64 0), .lit (.int .i64 0)]], .agg [.lit (.string [99, 108, 101, 97, 114]), .agg [.lit (.int .i64 0), .lit (.int .i64 0), .lit (.int .i64 0)]], .agg [.lit (.string [109, 97, 99]), .agg [.lit (.int .i64 1), .lit (.int .i64 0), .lit (.int .i64 5)]], .agg [.lit (.string [109, 97, 99, 109]), .agg [.lit (.int .i64 2), .lit (.int .i64 0), .lit (.int .i64 5)]], .agg [.lit (.string [109, 97, 99, 99]), .agg [.lit (.int .i64 3), .lit (.int .i64 4), .lit (.int .i64 5)]], .agg [.lit (.string [114, 111, 117, 110, 100]), .agg [.lit (.int .i64 1), .lit (.int .i64 0), .lit (.int .i64 0)]], .agg [.lit (.string [108, 111, 97, 100]), .agg [.lit (.int .i64 1), .lit (.int .i64 2), .lit (.int .i64 0)]], .agg [.lit (.string [115, 116, 111, 114, 101]), .agg [.lit (.int .i64 1), .lit (.int .i64 2), .lit (.int .i64 0)]], .agg [.lit (.string [112, 117, 115, 104]), .agg [.lit (.int .i64 3), .lit (.int .i64 1), .lit (.int .i64 0)]], .agg [.lit (.string [105, 110]), .agg [.lit (.int .i64 1), .lit (.int .i64 0), .lit (.int .i64 0)]], .agg [.lit (.string [111, 117, 116]), .agg [.lit (.int .i64 1), .lit (.int .i64 0), .lit (.int .i64 0)]], .agg [.lit (.string [109, 111, 118, 101]), .agg [.lit (.int .i64 1), .lit (.int .i64 1), .lit (.int .i64 0)]]])
    (h : laidMetH Tryd.prog [("dspcompiler/processor.forms", d)] W) :
    FormsAt W ∧ ∀ k, k < 12 → ∃ s : ByteArray, W.cell? ⟨0, k * 4, none⟩ = some (.string s) ∧ s.data.toList = (opWord k).map UInt8.ofNat := by
  rw [MakeChecks.laidMetH_plain _ _ _ (by subst hd; rfl)] at h
  obtain ⟨ps, ⟨g0, t0, cs0, f0, p0, q0, hg0, ht0, hv0, hd0, -⟩, -, -⟩ := h
  obtain rfl := Option.some.inj (gForms.symm.trans hg0)
  obtain rfl := Option.some.inj (tForms.symm.trans ht0)
  have kf : Tryd.prog.cellsOf 133 = 4 := by kernel_rfl
  obtain ⟨xs, m, -, hx, -, hn, hel⟩ := DataW.trod_array Tryd.underlying134 hd0
  have hx1 : DataW.agg (xs.map (·.1)) = d := (congrArg Prod.fst hx).symm
  rw [hd] at hx1
  injection hx1 with hx1
  have key : ∀ k, k < 12 → ∃ (s : ByteArray), W.cell? ⟨0, k * 4, none⟩ = some (.string s) ∧ s.data.toList = (opWord k).map UInt8.ofNat ∧ W.cell? ⟨0, k * 4 + 1, none⟩ = some (.int .i64 (kA k)) ∧ W.cell? ⟨0, k * 4 + 2, none⟩ = some (.int .i64 (kB k)) ∧ W.cell? ⟨0, k * 4 + 3, none⟩ = some (.int .i64 (kC k)) := fun k hk => by
    have hk1 := hel k hk
    obtain ⟨y, hy⟩ := get_lt hn hk
    rw [hy] at hk1
    obtain ⟨s, a, b, c, ecs, ey⟩ := trod_form hk1
    rw [kf] at ecs
    have hc : ∀ j, j < 4 → W.cell? ⟨0, k * 4 + j, none⟩ = [Value.string s, .int .i64 a, .int .i64 b, .int .i64 c][j]? := fun j hj => by
      rw [World.var?_cell hg0 hv0 (k * 4 + j), ← ecs, List.getElem?_take, if_pos hj, List.getElem?_drop]
      simp
    have hyk : (xs.map (·.1))[k]? = some y.1 := by rw [List.getElem?_map, hy]; rfl
    rw [hx1, ey] at hyk
    have hw : ((opWord k).map UInt8.ofNat, kA k, kB k, kC k) = (s.data.toList, a, b, c) := by
      match k, hk with
      | 0, _ | 1, _ | 2, _ | 3, _ | 4, _ | 5, _ | 6, _ | 7, _ | 8, _ | 9, _ | 10, _ | 11, _ =>
        simp at hyk
        obtain ⟨h1, h2, h3, h4⟩ := hyk
        simp [opWord, kA, kB, kC, ← h1, ← h2, ← h3, ← h4]
    simp only [Prod.mk.injEq] at hw
    obtain ⟨w1, w2, w3, w4⟩ := hw
    refine ⟨s, by simpa using hc 0 (by decide), w1.symm, ?_, ?_, ?_⟩
    · rw [w2]; simpa using hc 1 (by decide)
    · rw [w3]; simpa using hc 2 (by decide)
    · rw [w4]; simpa using hc 3 (by decide)
  refine ⟨⟨?_, fun k hk => (key k hk).choose_spec.2.2⟩, fun k hk => ⟨_, (key k hk).choose_spec.1, (key k hk).choose_spec.2.1⟩⟩
  obtain ⟨s, hs, -⟩ := key 0 (by decide)
  exact Nat.lt_of_not_le fun hle => by
    have : W.heap[0]? = none := Array.getElem?_eq_none hle
    simp [World.cell?, this] at hs
end Go.Proofs.YtgdccmmcjicgkaaDoor
end
