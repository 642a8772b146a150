/- Several texts in one: L6 Of. -/
import Derived.Test.YtgdccmmcjicgkaaDoorkL5toO2
import Derived.Test.YtgdccmmcjicgkaaDoorkOdtoS1
import Derived.Test.YtgdccmmcjicgkaaDoorkE4
import Derived.Test.YtgdccmmcjicgkaaDoorkS9toS19
import Derived.Test.YtgdccmmcjicgkaaDoorkQtoU3
import Derived.Lib.BufferRead
import Derived.Test.YtgdccmmcjicgkaaDoorkE1toI0
import Derived.ProofKit
import Derived.LaidMore
import Derived.OpenShut
import Derived.MakeChecks
set_option linter.unusedVariables false
set_option linter.unusedSimpArgs false
section
namespace Go.Proofs.YtgdccmmcjicgkaaDoor
open Go.RowKit
theorem ba_beq (s : ByteArray) : (s == s) = true := by
  obtain ⟨d⟩ := s
  show ByteArray.beq ⟨d⟩ ⟨d⟩ = true
  simp [ByteArray.beq]
def ByAt (w : World) (A : Option Addr) (l : List Int) : Prop := ∀ (k : Nat) x, l[k]? = some x → 0 ≤ x ∧ x < 256 ∧ ∃ q, A = some ⟨q, 0, none⟩ ∧ q < w.heap.size ∧ w.cell? ⟨q, k, none⟩ = some (.int .u8 x)
theorem ByAt.grow {w w' : World} {A : Option Addr} {l : List Int} (h : ByAt w A l) (hb : Below w.heap.size w w') : ByAt w' A l := fun k x hk => by
  obtain ⟨h1, h2, q, e, h3, h4⟩ := h k x hk
  exact ⟨h1, h2, q, e, Nat.lt_of_lt_of_le h3 hb.size, (hb.cell (p := ⟨q, k, none⟩) h3).trans h4⟩
theorem OwnBy.byAt {base : Nat} {w : World} {v : Value} {l : List Int} (h : OwnBy base w v l) (hr : ∀ x ∈ l, 0 ≤ x ∧ x < 256) : ∃ A c, v = .slice A l.length c ∧ ByAt w A l := by
  have h' : w.ownsRow base 5 1 v l.length (l.map (Value.int .u8)) := h
  rcases h'.2 with ⟨e, h0⟩ | ⟨g, cap, cur, e, -, -, -⟩
  · have hl : l = [] := List.length_eq_zero_iff.1 h0
    subst hl
    exact ⟨none, 0, e, fun k x hk => by simp at hk⟩
  · refine ⟨_, cap, e, fun k x hk => ?_⟩
    have hx := hr x (List.mem_of_getElem? hk)
    have hown : v.ownBlock = some g := by rw [e]; rfl
    exact ⟨hx.1, hx.2, g, rfl, (h'.lt g hown).2, by
      have := h'.cells (g := g) hown k (.int .u8 x) (by rw [List.getElem?_map, hk]; rfl)
      rw [add_noneI (ad := ⟨g, 0, none⟩) (n := k) rfl, Nat.zero_add] at this
      exact this⟩
theorem ByAt.text {w : World} {A : Option Addr} {l : List Int} (h : ByAt w A l) (c : Nat) : (convert 26 9 (.slice A l.length c)).run Tryd.prog w = .ok (.string (str (l.map fun x => UInt8.ofNat x.toNat))) w := by
  cases A with
  | none =>
    have hl : l = [] := by
      match l, h with
      | [], _ => rfl
      | x :: l, h => obtain ⟨-, -, q, e, -⟩ := h 0 x rfl; cases e
    subst hl
    exact Lib.run_convert_nil_bytes w _ _ _ c Tryd.underlying26 Tryd.underlying5 Tryd.underlying9
  | some a =>
    have := Go.run_convert_bytes_back (P := Tryd.prog) w 26 9 5 a c (l.map fun x => UInt8.ofNat x.toNat) Tryd.underlying26 Tryd.underlying5 Tryd.underlying9 (fun j hj => by
      rw [List.length_map] at hj
      obtain ⟨h1, h2, q, e, -, h4⟩ := h j l[j] (List.getElem?_eq_getElem hj)
      injection e with e
      subst e
      rw [List.getElem_map]
      have e2 : ((UInt8.ofNat l[j].toNat).toNat : Int) = l[j] := by
        have : (UInt8.ofNat l[j].toNat).toNat = l[j].toNat % 256 := by simp
        rw [this]; omega
      rw [e2]
      have e3 : (Addr.mk q 0 none).add j = ⟨q, j, none⟩ := by
        have := add_noneI (ad := ⟨q, 0, none⟩) (n := j) rfl
        rw [this, Nat.zero_add]
      rw [e3]; exact h4)
    rw [List.length_map] at this
    exact this
theorem bytes_in (l : List Ins) : ∀ x ∈ encB l, 0 ≤ x ∧ x < 256 := fun x hx => by
  unfold encB at hx
  split at hx
  · obtain ⟨i, -, hi⟩ := List.mem_flatMap.1 hx
    unfold Ins.bytes at hi
    simp only [List.mem_cons, List.not_mem_nil, or_false] at hi
    rcases hi with rfl | rfl | rfl | rfl | rfl | rfl | rfl | rfl <;> omega
  · simp at hx
abbrev kn38 : List Ins := [⟨4, 1, 2, -3⟩, ⟨0, 0, 0, 0⟩]
theorem kn38_ok : ∀ i ∈ kn38, i.ok := by
  intro i hi
  simp only [kn38, List.mem_cons, List.not_mem_nil, or_false] at hi
  rcases hi with rfl | rfl
  · exact ⟨⟨by decide, by decide⟩, ⟨by decide, by decide⟩, ⟨by decide, by decide⟩, ⟨by decide, by decide⟩⟩
  · exact ⟨⟨by decide, by decide⟩, ⟨by decide, by decide⟩, ⟨by decide, by decide⟩, ⟨by decide, by decide⟩⟩
theorem kn38_enc : encE kn38 = 0 := by decide
theorem kn38_text : str (fmtB kn38) = ⟨#[109, 97, 99, 99, 32, 99, 49, 32, 50, 32, 45, 51, 10, 104, 97, 108, 116, 10]⟩ := by
  have e1 : Lib.itoa 1 = [49] := itoa_small (by decide) (by decide)
  have e2 : Lib.itoa 2 = [50] := itoa_small (by decide) (by decide)
  have e3 : Lib.itoa (-3) = [45, 51] := by rw [itoa_minus (by decide), show -(-3 : Int) = 3 by decide, itoa_small (by decide) (by decide)]; rfl
  unfold fmtB
  rw [kn38_enc, if_pos rfl]
  have h1 : lineB ⟨4, 1, 2, -3⟩ = [109, 97, 99, 99, 32, 99, 49, 32, 50, 32, 45, 51] := by
    show (opStr 4).data.toList ++ partB 3 1 ++ partB 4 2 ++ partB 5 (-3) = _
    unfold partB
    rw [e1, e2, e3]
    decide
  have h2 : lineB ⟨0, 0, 0, 0⟩ = [104, 97, 108, 116] := by
    show (opStr 0).data.toList ++ partB 0 0 ++ partB 0 0 ++ partB 0 0 = _
    unfold partB
    decide
  unfold fmtL kn38
  rw [List.flatMap_cons, List.flatMap_cons, List.flatMap_nil, h1, h2]
  rfl
set_option maxRecDepth 100000 in
set_option maxHeartbeats 4000000 in
theorem known38 (w : World) (hf : PrAt w) : Calls Tryd.prog 12 #[] w fun e w' => e = .returned (.bool true) ∧ Below w.heap.size w w' := by
  have HF := Lib.hid hf
  have CFm : Hid (∀ w1 A c, Below w.heap.size w w1 → InsAt w1 A kn38 → Calls Tryd.prog 15 #[.slice A 2 c] w1 fun e w' => e = .returned (.tuple #[.string ⟨#[109, 97, 99, 99, 32, 99, 49, 32, 50, 32, 45, 51, 10, 104, 97, 108, 116, 10]⟩, .int .i64 0]) ∧ Below w1.heap.size w1 w') := Lib.hid fun w1 A c hb hi => by
    have h := pr_Format A 2 c kn38 w1 (HF.out.grow hb) hi rfl (by decide)
    rw [kn38_text, kn38_enc] at h
    exact h
  have CU : Hid (∀ w1, Below w.heap.size w w1 → Calls Tryd.prog 17 #[.agg #[.int .i64 2, .int .i64 2, .int .i64 0, .int .i64 7]] w1 fun e w' => ∃ (A B : Option Addr) (c d : Nat), e = .returned (.tuple #[.slice A 2 c, .slice B 1 d]) ∧ Ints w' A [2, 8] ∧ Ints w' B [8] ∧ Below w1.heap.size w1 w') := Lib.hid fun w1 hb => by
    have h := pr_Uses ⟨2, 2, 0, 7⟩ w1 (HF.out.forms.grow hb) ⟨⟨by decide, by decide⟩, ⟨by decide, by decide⟩, ⟨by decide, by decide⟩, ⟨by decide, by decide⟩⟩
    refine h.mono ?_
    rintro e w' ⟨A, B, c, d, h1, h2, h3, h4⟩
    exact ⟨A, B, c, d, h1, h2.1, h3.1, h4⟩
  have CS2 : Hid (∀ w1 A c, Ints w1 A [2, 8] → Calls Tryd.prog 19 #[.slice A 2 c, .slice (some ⟨w1.heap.size, 0, none⟩) 2 2] (w1.alloc (.cells #[.int .i64 2, .int .i64 8] 3)) fun e w' => e = .returned (.bool true) ∧ Below w1.heap.size w1 w') := Lib.hid fun w1 A c h1 =>
    (rf_SameN A _ [2, 8] [2, 8] c 2 2 2 _ rfl rfl (by decide) rfl (h1.grow ((Below.refl _ _).alloc (Nat.le_refl _) _)) (lit_two ⟨by decide, by decide⟩ ⟨by decide, by decide⟩)).mono fun e w' h => ⟨h.1, below_then ((Below.refl _ _).alloc (Nat.le_refl _) _) h.2⟩
  have CS1 : Hid (∀ w1 A c, Ints w1 A [8] → Calls Tryd.prog 19 #[.slice A 1 c, .slice (some ⟨w1.heap.size, 0, none⟩) 1 1] (w1.alloc (.cells #[.int .i64 8] 3)) fun e w' => e = .returned (.bool true) ∧ Below w1.heap.size w1 w') := Lib.hid fun w1 A c h1 =>
    (rf_SameN A _ [8] [8] c 1 1 1 _ rfl rfl (by decide) rfl (h1.grow ((Below.refl _ _).alloc (Nat.le_refl _) _)) (lit_one ⟨by decide, by decide⟩)).mono fun e w' h => ⟨h.1, below_then ((Below.refl _ _).alloc (Nat.le_refl _) _) h.2⟩
  clear hf
  go_enter Tryd.func12, Tryd.ntmps12
  go_upto_region 2 with (first
    | ((with_reducible show wpList _ _ _ (Oper.mk (some 8) _ _ _ _ _ :: _) _ _); refine bld_ins2 ⟨4, 1, 2, -3⟩ ⟨0, 0, 0, 0⟩ rfl _ _ rfl rfl rfl ?_)
    | (go_at_call 15; (with_reducible refine (CFm.out _ _ _ (litI_below w kn38) (InsAt.lit kn38_ok)).mono ?_); rintro e1 w1 ⟨rfl, hb1⟩))
  have HB1 := Lib.hid (below_then (litI_below w kn38) hb1)
  clear hb1
  go_upto_region 3 with (go_at_call 17; (with_reducible refine (CU.out _ HB1.out).mono ?_); rintro e2 w2 ⟨A, B, c, d, rfl, hA, hB, hb2⟩)
  have HB2 := Lib.hid (below_then HB1.out hb2)
  have HA := Lib.hid hA
  have HBI := Lib.hid hB
  clear hA hB hb2
  go_wp2_with (go_at_call 19; first
    | ((with_reducible refine (CS2.out _ _ _ HA.out).mono ?_); rintro e3 w3 ⟨rfl, hb3⟩)
    | ((with_reducible refine (CS1.out _ _ _ (HBI.out.grow hb3)).mono ?_); rintro e4 w4 ⟨rfl, hb4⟩; have hb24 := below_then hb3 hb4))
  go_ret
  exact ⟨rfl, below_then HB2.out hb24⟩
set_option maxRecDepth 100000 in
set_option maxHeartbeats 8000000 in
theorem law_ProcessorChecks (u : PrgA) (w : World) (hf : PrAt w) (hu : PrgAt w u ∧ u.d.rg.length ≤ 9223372036854775807 ∧ u.d.code.length ≤ 9223372036854775807) :
    Calls Tryd.prog 10 #[u.v] w fun e w' => e = .returned (.bool true) ∧ Below w.heap.size w w' := by
  obtain ⟨hp, hr9, hc9⟩ := hu
  obtain ⟨rn, hrn⟩ : ∃ n, u.d.rg.length = n := ⟨_, rfl⟩
  obtain ⟨cn, hcn⟩ : ∃ n, u.d.code.length = n := ⟨_, rfl⟩
  have HL8 := Lib.hid (lst_eight hrn)
  have HL9 := Lib.hid (lst_nine hcn)
  have CK : Hid (∀ w1, Below w.heap.size w w1 → Calls Tryd.prog 12 #[] w1 fun e w' => e = .returned (.bool true) ∧ Below w1.heap.size w1 w') := Lib.hid fun w1 hb => known38 w1 (hf.grow hb)
  obtain ⟨V, hV⟩ : ∃ v, validB u.d = v := ⟨_, rfl⟩
  obtain ⟨CI, hCI⟩ : ∃ v, (chkF u.d).1 = v := ⟨_, rfl⟩
  obtain ⟨CE, hCE⟩ : ∃ v, (chkF u.d).2 = v := ⟨_, rfl⟩
  have CC1 : Hid (∀ w1, Below w.heap.size w w1 → Calls Tryd.prog 41 #[.agg u.lst.toArray] w1 fun e w' => e = .returned (.tuple #[.int .i64 CI, .int .i64 CE]) ∧ Below w1.heap.size w1 w') := Lib.hid fun w1 hb => by
    have h := pr_Check u w1 (hf.forms.grow hb) (hp.grow hb) hr9 hc9
    unfold RetChk at h
    rw [hCI, hCE] at h
    exact h
  have CC2 : Hid (∀ w1, Below w.heap.size w w1 → Calls Tryd.prog 42 #[.agg u.lst.toArray] w1 fun e w' => e = .returned (.tuple #[.int .i64 CI, .int .i64 CE]) ∧ Below w1.heap.size w1 w') := Lib.hid fun w1 hb => by
    have h := r38_Check u w1 (hp.grow hb) hr9 hc9
    unfold RetChk at h
    rw [hCI, hCE] at h
    exact h
  have CV1 : Hid (∀ w1, Below w.heap.size w w1 → Calls Tryd.prog 43 #[.agg u.lst.toArray] w1 fun e w' => e = .returned (.bool V) ∧ Below w1.heap.size w1 w') := Lib.hid fun w1 hb => pr_Valid u w1 (hf.forms.grow hb) (hp.grow hb) hr9 hc9 hV
  have CV2 : Hid (∀ w1, Below w.heap.size w w1 → Calls Tryd.prog 29 #[.agg u.lst.toArray] w1 fun e w' => e = .returned (.bool V) ∧ Below w1.heap.size w1 w') := Lib.hid fun w1 hb => r38_Valid u w1 (hp.grow hb) hr9 hc9 hV
  have d1 : decide (CI = CI) = true := decide_eq_true rfl
  have d2 : (CI == CI) = true := by simp
  have d3 : decide (CE = CE) = true := decide_eq_true rfl
  have d4 : (CE == CE) = true := by simp
  have d5 : (V == V) = true := by simp
  rw [hrn] at hr9
  rw [hcn] at hc9
  clear hf hp hV hCI hCE hrn hcn
  go_enter Tryd.func10, Tryd.ntmps10
  go_upto_region 1 with fail
  obtain ⟨bp, hb0⟩ := entryP w u.lst _ rfl
  change Code.wp _ _ _ _ (w.alloc (.cells u.lst.toArray 43))
  generalize w.alloc (.cells u.lst.toArray 43) = W0 at bp hb0 ⊢
  have HB0 := Lib.hid hb0
  have HP0 := Lib.hid bp
  have x8 : W0.cell? ⟨w.heap.size, 8, none⟩ = some (.slice u.RA rn u.rc) := (bp.2.1 8).trans HL8.out
  have x9 : W0.cell? ⟨w.heap.size, 9, none⟩ = some (.slice u.CA cn u.cc) := (bp.2.1 9).trans HL9.out
  clear hb0 bp
  by_cases h_rn : (20 : Int) < (rn : Int)
  · go_wp2_with (go_at_call 12; (with_reducible refine (CK.out _ HB0.out).mono ?_); rintro e1 w1 ⟨rfl, hb1⟩)
    go_ret
    exact ⟨rfl, below_then HB0.out hb1⟩
  by_cases h_cn : (100 : Int) < (cn : Int) ∧ (cn : Int) ≤ 512
  · obtain ⟨h1, h2⟩ := h_cn
    go_wp2_with (go_at_call 12; (with_reducible refine (CK.out _ HB0.out).mono ?_); rintro e1 w1 ⟨rfl, hb1⟩)
    go_ret
    exact ⟨rfl, below_then HB0.out hb1⟩
  by_cases h_cm : (517 : Int) < (cn : Int)
  · have h1 : ¬ (cn : Int) ≤ 512 := by omega
    have h2 : (100 : Int) < (cn : Int) := by omega
    clear h_cn
    go_wp2_with (go_at_call 12; (with_reducible refine (CK.out _ HB0.out).mono ?_); rintro e1 w1 ⟨rfl, hb1⟩)
    go_ret
    exact ⟨rfl, below_then HB0.out hb1⟩
  have hcase : ¬ (100 : Int) < (cn : Int) ∨ ((100 : Int) < (cn : Int) ∧ ¬ (cn : Int) ≤ 512) := by omega
  have HC := Lib.hid hcase
  clear hcase h_cn
  rcases HC.out with h1 | ⟨h1, h2⟩
  all_goals
    go_upto_region 3 with fail
    clear x8 x9 h_rn h_cm
    obtain ⟨gp, hgp⟩ : ∃ g, w.heap.size = g := ⟨_, rfl⟩
    rw [hgp] at HP0 ⊢
    go_upto_region 4 with (first
      | ((with_reducible show wpList _ _ _ (Oper.mk _ (.load 43 _) _ _ _ _ :: _) _ _); refine ld_prg HP0.out (lst_ten u) rfl _ rfl rfl ?_)
      | (go_at_call 41; (with_reducible refine (CC1.out _ HB0.out).mono ?_); rintro e3 w3 ⟨rfl, hb3⟩))
    have HB3 := Lib.hid (below_then HB0.out hb3)
    have HP3 := Lib.hid (HP0.out.keep hb3)
    clear hb3
    go_upto_region 5 with (first
      | ((with_reducible show wpList _ _ _ (Oper.mk _ (.load 43 _) _ _ _ _ :: _) _ _); refine ld_prg HP3.out (lst_ten u) rfl _ rfl rfl ?_)
      | (go_at_call 42; (with_reducible refine (CC2.out _ HB3.out).mono ?_); rintro e4 w4 ⟨rfl, hb4⟩))
    have HB4 := Lib.hid (below_then HB3.out hb4)
    have HP4 := Lib.hid (HP3.out.keep hb4)
    clear hb4
    refine wp_region_ext (by kernel_rfl) (by kernel_rfl) ?_
    repeat (first
      | ((with_reducible show wpQuiet _ _ _ _ (Oper.mk (some 52) (.load 43 _) _ _ _ _ :: _) _); refine qld_prg HP4.out (lst_ten u) rfl (Operand.tmp 1) rfl rfl ?_; try simp [Act.put])
      | ((with_reducible show wpQuiet _ _ _ _ (Oper.mk (some 54) (.load 43 _) _ _ _ _ :: _) _); refine qld_prg HP4.out (lst_ten u) rfl (Operand.tmp 1) rfl rfl ?_; try simp [Act.put])
      | (go_big_quiet_step (first
        | (go_at_call 12; exact ext_below (CK.out _ (below_then HB4.out (Ext.below _))))
        | (go_at_call 43; exact ext_below (CV1.out _ (below_then HB4.out (Ext.below _))))
        | (go_at_call 29; exact ext_below (CV2.out _ (below_then HB4.out (Ext.below _)))))))
    refine wpQuiet_nil ?_
    rintro ⟨w5, hb5⟩
    dsimp only
    go_wp2_with fail
    go_ret
    exact ⟨rfl, below_then HB4.out hb5⟩
set_option maxRecDepth 100000 in
set_option maxHeartbeats 8000000 in
theorem law_ProcessorWrites (u : Option Addr × Nat × List Ins) (i : Ins) (w : World) (hf : PrAt w) (hu : InsAt w u.1 u.2.2 ∧ u.2.2.length ≤ 9223372036854775807) (hi : i.ok) :
    Calls Tryd.prog 3 #[.slice u.1 u.2.2.length u.2.1, i.v] w fun e w' => e = .returned (.bool true) ∧ Below w.heap.size w w' := by
  obtain ⟨LA, lc, ll⟩ := u
  obtain ⟨hli, hl9⟩ := hu
  simp only at hli hl9 ⊢
  obtain ⟨ln, hln⟩ : ∃ n, ll.length = n := ⟨_, rfl⟩
  rw [hln] at hl9 ⊢
  have CK : Hid (∀ w1, Below w.heap.size w w1 → Calls Tryd.prog 12 #[] w1 fun e w' => e = .returned (.bool true) ∧ Below w1.heap.size w1 w') := Lib.hid fun w1 hb => known38 w1 (hf.grow hb)
  obtain ⟨E, hE⟩ : ∃ E, encE ll = E := ⟨_, rfl⟩
  obtain ⟨bl, hbl⟩ : ∃ E, encB ll = E := ⟨_, rfl⟩
  obtain ⟨sf, hsf⟩ : ∃ E, str (fmtB ll) = E := ⟨_, rfl⟩
  obtain ⟨bn, hbn⟩ : ∃ n, bl.length = n := ⟨_, rfl⟩
  obtain ⟨rd, hrd⟩ : ∃ E, i.rd = E := ⟨_, rfl⟩
  obtain ⟨wt, hwt⟩ : ∃ E, i.wt = E := ⟨_, rfl⟩
  obtain ⟨rn, hrn⟩ : ∃ n, rd.length = n := ⟨_, rfl⟩
  obtain ⟨wn, hwn⟩ : ∃ n, wt.length = n := ⟨_, rfl⟩
  have hlen : rn ≤ 1000000 ∧ wn ≤ 1000000 := by
    have h1 := rd_len i
    have h2 := wt_len i
    rw [hrd, hrn] at h1
    rw [hwt, hwn] at h2
    omega
  have C1 : Hid (∀ w1, Below w.heap.size w w1 → Calls Tryd.prog 13 #[.slice LA ln lc] w1 fun e w' => (∃ A c, e = .returned (.tuple #[.slice A bn c, .int .i64 E]) ∧ ByAt w' A bl) ∧ Below w1.heap.size w1 w') := Lib.hid fun w1 hb => by
    have h := pr_Encode LA ln lc ll w1 (hf.forms.grow hb) (hli.grow hb) hln hl9
    rw [hE, hbl] at h
    refine h.mono ?_
    rintro e w' ⟨⟨v, rfl, ho⟩, hb'⟩
    obtain ⟨A, c, rfl, h2⟩ := ho.byAt (by rw [← hbl]; exact bytes_in ll)
    rw [hbn]
    exact ⟨⟨A, c, rfl, h2⟩, hb'⟩
  have C2 : Hid (∀ w1, Below w.heap.size w w1 → Calls Tryd.prog 14 #[.slice LA ln lc] w1 fun e w' => (∃ A c, e = .returned (.tuple #[.slice A bn c, .int .i64 E]) ∧ ByAt w' A bl) ∧ Below w1.heap.size w1 w') := Lib.hid fun w1 hb => by
    have h := r38_Encode LA ln lc ll w1 (hli.grow hb) hln hl9
    rw [hE, hbl] at h
    refine h.mono ?_
    rintro e w' ⟨⟨v, rfl, ho⟩, hb'⟩
    obtain ⟨A, c, rfl, h2⟩ := ho.byAt (by rw [← hbl]; exact bytes_in ll)
    rw [hbn]
    exact ⟨⟨A, c, rfl, h2⟩, hb'⟩
  have C3 : Hid (∀ w1, Below w.heap.size w w1 → Calls Tryd.prog 15 #[.slice LA ln lc] w1 fun e w' => e = .returned (.tuple #[.string sf, .int .i64 E]) ∧ Below w1.heap.size w1 w') := Lib.hid fun w1 hb => by
    have h := pr_Format LA ln lc ll w1 (hf.grow hb) (hli.grow hb) hln hl9
    rw [hE, hsf] at h
    exact h
  have C4 : Hid (∀ w1, Below w.heap.size w w1 → Calls Tryd.prog 16 #[.slice LA ln lc] w1 fun e w' => e = .returned (.tuple #[.string sf, .int .i64 E]) ∧ Below w1.heap.size w1 w') := Lib.hid fun w1 hb => by
    have h := r38_Format LA ln lc ll w1 (hli.grow hb) hln hl9
    rw [hE, hsf] at h
    exact h
  have C5 : Hid (∀ w1, Below w.heap.size w w1 → Calls Tryd.prog 17 #[i.v] w1 fun e w' => ∃ (A B : Option Addr) (c d : Nat), e = .returned (.tuple #[.slice A rn c, .slice B wn d]) ∧ Ints w' A rd ∧ Ints w' B wt ∧ Below w1.heap.size w1 w') := Lib.hid fun w1 hb => by
    refine (pr_Uses i w1 (hf.forms.grow hb) hi).mono ?_
    rintro e w' ⟨A, B, c, d, h1, h2, h3, h4⟩
    rw [hrd, hrn, hwt, hwn] at h1
    rw [hrd] at h2
    rw [hwt] at h3
    exact ⟨A, B, c, d, h1, h2.1, h3.1, h4⟩
  have C6 : Hid (∀ w1, Calls Tryd.prog 18 #[i.v] w1 fun e w' => ∃ (A B : Option Addr) (c d : Nat), e = .returned (.tuple #[.slice A rn c, .slice B wn d]) ∧ Ints w' A rd ∧ Ints w' B wt ∧ Below w1.heap.size w1 w') := Lib.hid fun w1 => by
    refine (r38_Uses i w1 hi).mono ?_
    rintro e w' ⟨A, B, c, d, h1, h2, h3, h4⟩
    rw [hrd, hrn, hwt, hwn] at h1
    rw [hrd] at h2
    rw [hwt] at h3
    exact ⟨A, B, c, d, h1, h2.1, h3.1, h4⟩
  have CS1 : Hid (∀ w1 A B c d, Ints w1 A rd → Ints w1 B rd → Calls Tryd.prog 19 #[.slice A rn c, .slice B rn d] w1 fun e w' => e = .returned (.bool true) ∧ Below w1.heap.size w1 w') := Lib.hid fun w1 A B c d h1 h2 => rf_SameN A B rd rd c d rn rn w1 hrn hrn hlen.1 rfl h1 h2
  have CS2 : Hid (∀ w1 A B c d, Ints w1 A wt → Ints w1 B wt → Calls Tryd.prog 19 #[.slice A wn c, .slice B wn d] w1 fun e w' => e = .returned (.bool true) ∧ Below w1.heap.size w1 w') := Lib.hid fun w1 A B c d h1 h2 => rf_SameN A B wt wt c d wn wn w1 hwn hwn hlen.2 rfl h1 h2
  obtain ⟨sb, hsb⟩ : ∃ s, str (bl.map fun x => UInt8.ofNat x.toNat) = s := ⟨_, rfl⟩
  have HCV : Hid (∀ (w1 : World) A c, ByAt w1 A bl → (convert 26 9 (.slice A bn c)).run Tryd.prog w1 = .ok (.string sb) w1) := Lib.hid fun w1 A c h => by rw [← hbn, ← hsb]; exact h.text c
  have hen : Below w.heap.size w (w.alloc (.cells i.cells.toArray 24)) := (Below.refl _ _).alloc (Nat.le_refl _) _
  have hbx : Box (w.alloc (.cells i.cells.toArray 24)) w.heap.size i.cells := Box.new rfl
  have HEN := Lib.hid hen
  have HBX := Lib.hid hbx
  have d3 : decide (E = E) = true := decide_eq_true rfl
  have d4 : (E == E) = true := by simp
  have d5 : (sf == sf) = true := ba_beq sf
  have d6 : (sb == sb) = true := ba_beq sb
  clear hf hli hi hE hbl hsf hbn hrd hwt hrn hwn hlen hsb hen hbx hln
  go_enter Tryd.func3, Tryd.ntmps3
  go_upto_region 1 with fail
  have HB0 := Lib.hid HEN.out
  have hx := HBX.out
  change Code.wp _ _ _ _ (w.alloc (.cells i.cells.toArray 24))
  have hb := HB0.out
  generalize w.alloc (.cells i.cells.toArray 24) = W0 at hx hb ⊢
  have HB0 := Lib.hid hb
  have HX0 := Lib.hid hx
  clear hb hx HEN HBX
  by_cases h_cn : (100 : Int) < (ln : Int) ∧ (ln : Int) ≤ 512
  · obtain ⟨h1, h2⟩ := h_cn
    go_wp2_with (go_at_call 12; (with_reducible refine (CK.out _ HB0.out).mono ?_); rintro e1 w1 ⟨rfl, hb1⟩)
    go_ret
    exact ⟨rfl, below_then HB0.out hb1⟩
  by_cases h_cm : (517 : Int) < (ln : Int)
  · have h1 : ¬ (ln : Int) ≤ 512 := by omega
    have h2 : (100 : Int) < (ln : Int) := by omega
    clear h_cn
    go_wp2_with (go_at_call 12; (with_reducible refine (CK.out _ HB0.out).mono ?_); rintro e1 w1 ⟨rfl, hb1⟩)
    go_ret
    exact ⟨rfl, below_then HB0.out hb1⟩
  have hcase : ¬ (100 : Int) < (ln : Int) ∨ ((100 : Int) < (ln : Int) ∧ ¬ (ln : Int) ≤ 512) := by omega
  have HC := Lib.hid hcase
  clear hcase h_cn
  rcases HC.out with h1 | ⟨h1, h2⟩
  all_goals
    go_upto_region 3 with fail
    clear h_cm
    generalize w.heap.size = gi at HX0 ⊢
    go_upto_region 4 with (go_at_call 13; (with_reducible refine (C1.out _ HB0.out).mono ?_); rintro e3 w3 ⟨⟨A3, c3, rfl, hy3⟩, hb3⟩)
    have HB3 := Lib.hid (below_then HB0.out hb3)
    have HX3 := Lib.hid (HX0.out.keep hb3)
    have HY3 := Lib.hid hy3
    clear hb3 hy3
    go_upto_region 5 with (go_at_call 14; (with_reducible refine (C2.out _ HB3.out).mono ?_); rintro e4 w4 ⟨⟨A4, c4, rfl, hy4⟩, hb4⟩)
    have HB4 := Lib.hid (below_then HB3.out hb4)
    have HX4 := Lib.hid (HX3.out.keep hb4)
    have HY4 := Lib.hid (HY3.out.grow hb4)
    have HZ4 := Lib.hid hy4
    clear hb4 hy4
    go_upto_region 6 with (go_at_call 15; (with_reducible refine (C3.out _ HB4.out).mono ?_); rintro e5 w5 ⟨rfl, hb5⟩)
    go_upto_region 7 with (go_at_call 16; (with_reducible refine (C4.out _ (below_then HB4.out hb5)).mono ?_); rintro e6 w6 ⟨rfl, hb6⟩)
    have hb56 := below_then hb5 hb6
    have HB6 := Lib.hid (below_then HB4.out hb56)
    have HX6 := Lib.hid (HX4.out.keep hb56)
    have HY6 := Lib.hid (HY4.out.grow hb56)
    have HZ6 := Lib.hid (HZ4.out.grow hb56)
    clear hb5 hb6 hb56
    go_upto_region 8 with (first
      | ((with_reducible show wpList _ _ _ (Oper.mk _ (.load _ _) _ _ _ _ :: _) _ _); refine ld_ins HX6.out rfl _ rfl rfl ?_)
      | (go_at_call 17; (with_reducible refine (C5.out _ HB6.out).mono ?_); rintro e7 w7 ⟨RA, SA, rc, sc, rfl, hra, hsa, hb7⟩))
    have HB7 := Lib.hid (below_then HB6.out hb7)
    have HX7 := Lib.hid (HX6.out.keep hb7)
    have HY7 := Lib.hid (HY6.out.grow hb7)
    have HZ7 := Lib.hid (HZ6.out.grow hb7)
    have HRA := Lib.hid hra
    have HSA := Lib.hid hsa
    clear hb7 hra hsa
    go_upto_region 9 with (first
      | ((with_reducible show wpList _ _ _ (Oper.mk _ (.load _ _) _ _ _ _ :: _) _ _); refine ld_ins HX7.out rfl _ rfl rfl ?_)
      | (go_at_call 18; (with_reducible refine (C6.out _).mono ?_); rintro e8 w8 ⟨RB, SB, rd', sd', rfl, hrb, hsb, hb8⟩))
    have HB8 := Lib.hid (below_then HB7.out hb8)
    have HY8 := Lib.hid (HY7.out.grow hb8)
    have HZ8 := Lib.hid (HZ7.out.grow hb8)
    have HRA8 := Lib.hid (HRA.out.grow hb8)
    have HSA8 := Lib.hid (HSA.out.grow hb8)
    have HRB := Lib.hid hrb
    have HSB := Lib.hid hsb
    clear hb8 hrb hsb
    go_wp2_with (first
      | (go_at_call 12; (with_reducible refine (CK.out _ HB8.out).mono ?_); rintro e9 w9 ⟨rfl, hb9⟩; have hv1 := HCV.out w9 A3 c3 (HY8.out.grow hb9); have hv2 := HCV.out w9 A4 c4 (HZ8.out.grow hb9))
      | (go_at_call 19; first
        | ((with_reducible refine (CS1.out _ _ _ _ _ (HRA8.out.grow hb9) (HRB.out.grow hb9)).mono ?_); rintro e10 w10 ⟨rfl, hb10⟩; have hb910 := below_then hb9 hb10)
        | ((with_reducible refine (CS2.out _ _ _ _ _ (HSA8.out.grow hb910) (HSB.out.grow hb910)).mono ?_); rintro e11 w11 ⟨rfl, hb11⟩; have hb911 := below_then hb910 hb11)))
    go_ret
    exact ⟨rfl, below_then HB8.out hb911⟩
end Go.Proofs.YtgdccmmcjicgkaaDoor
end
section
set_option maxRecDepth 100000
namespace Go.Proofs.YtgdccmmcjicgkaaDoor
open Go.Joins Go.ChangeShapes Go.WideShapes Go.RowKit Go.Deep
theorem gForms : Tryd.prog.globalNamed "dspcompiler/processor.forms" = some 0 := by kernel_rfl
theorem tForms : (Tryd.prog.globals[0]?).map (·.type) = some 134 := by kernel_rfl
theorem trod_form {H : Type} {enc : TypeId × Value → H} {w : World} {base fuel : Nat} {sp : Nat → Bool} {hd : Bool} {cs : List Value} {y : DataW H × List MemPlace}
    (hf : DataW.trod enc Tryd.prog w base sp hd fuel 133 cs = some y) :
    ∃ (s : ByteArray) (a b c : Int), cs = [.string s, .int .i64 a, .int .i64 b, .int .i64 c] ∧ y.1 = .agg [.lit (.string s.data.toList), .agg [.lit (.int .i64 a), .lit (.int .i64 b), .lit (.int .i64 c)]] := by
  obtain ⟨y0, y1, n, rfl, hl, h0, h1⟩ := trod_struct2 Tryd.underlying133 hf
  have kf : Tryd.prog.cellsOf 133 = 4 := by kernel_rfl
  have ks : Tryd.prog.cellsOf 9 = 1 := by kernel_rfl
  have ka : Tryd.prog.cellsOf 131 = 3 := by kernel_rfl
  have ki : Tryd.prog.cellsOf 3 = 1 := by kernel_rfl
  rw [kf] at hl
  match cs, hl with
  | [v0, v1, v2, v3], _ =>
    simp [ks, ka] at h0 h1
    obtain ⟨s, e0, f0, -⟩ := DataW.trod_string Tryd.underlying9 h0
    obtain ⟨xs, m, -, rfl, -, hlen, hel⟩ := DataW.trod_array Tryd.underlying131 h1
    have g0 := hel 0 (by decide)
    have g1 := hel 1 (by decide)
    have g2 := hel 2 (by decide)
    obtain ⟨y0, q0⟩ := get_lt hlen (i := 0) (by decide)
    obtain ⟨y1, q1⟩ := get_lt hlen (i := 1) (by decide)
    obtain ⟨y2, q2⟩ := get_lt hlen (i := 2) (by decide)
    rw [q0] at g0
    rw [q1] at g1
    rw [q2] at g2
    simp [ki] at g0 g1 g2
    obtain ⟨a, e1, f1, -⟩ := DataW.trod_int Tryd.underlying3 g0
    obtain ⟨b, e2, f2, -⟩ := DataW.trod_int Tryd.underlying3 g1
    obtain ⟨c, e3, f3, -⟩ := DataW.trod_int Tryd.underlying3 g2
    simp at e0 e1 e2 e3
    subst e0 e1 e2 e3 f0
    refine ⟨s, a, b, c, rfl, ?_⟩
    match xs, hlen, q0, q1, q2 with
    | [z0, z1, z2], _, q0, q1, q2 =>
      simp at q0 q1 q2
      subst q0 q1 q2 f1 f2 f3
      rfl
theorem forms_of_laid {W : World} {d : DataW Unit} (hd : d = .agg [.agg [.lit (.string [104, 97, 108, 116]), .agg [.lit (.int .i64 0), .lit (.int .i64 0), .lit (.int .i64 0)]], .agg [.lit (.string [99, 108, 101, 97, 114]), .agg [.lit (.int .i64 0), .lit (.int .i64 0), .lit (.int .i64 0)]], .agg [.lit (.string [109, 97, 99]), .agg [.lit (.int .i64 1), .lit (.int .i64 0), .lit (.int .i64 5)]], .agg [.lit (.string [109, 97, 99, 109]), .agg [.lit (.int .i64 2), .lit (.int .i64 0), .lit (.int .i64 5)]], .agg [.lit (.string [109, 97, 99, 99]), .agg [.lit (.int .i64 3), .lit (.int .i64 4), .lit (.int .i64 5)]], .agg [.lit (.string [114, 111, 117, 110, 100]), .agg [.lit (.int .i64 1), .lit (.int .i64 0), .lit (.int .i64 0)]], .agg [.lit (.string [108, 111, 97, 100]), .agg [.lit (.int .i64 1), .lit (.int .i64 2), .lit (.int .i64 0)]], .agg [.lit (.string [115, 116, 111, 114, 101]), .agg [.lit (.int .i64 1), .lit (.int .i64 2), .lit (.int .i64 0)]], .agg [.lit (.string [112, 117, 115, 104]), .agg [.lit (.int .i64 3), .lit (.int .i64 1), .lit (.int .i64 0)]], .agg [.lit (.string [105, 110]), .agg [.lit (.int .i64 1), .lit (.int .i64 0), .lit (.int .i64 0)]], .agg [.lit (.string [111, 117, 116]), .agg [.lit (.int .i64 1), .lit (.int .i64 0), .lit (.int .i64 0)]], .agg [.lit (.string [109, 111, 118, 101]), .agg [.lit (.int .i64 1), .lit (.int .i64 1), .lit (.int .i64 0)]]])
    (h : laidMetH Tryd.prog [("dspcompiler/processor.forms", d)] W) :
    FormsAt W ∧ ∀ k, k < 12 → ∃ s : ByteArray, W.cell? ⟨0, k * 4, none⟩ = some (.string s) ∧ s.data.toList = (opWord k).map UInt8.ofNat := by
  rw [MakeChecks.laidMetH_plain _ _ _ (by subst hd; rfl)] at h
  obtain ⟨ps, ⟨g0, t0, cs0, f0, p0, q0, hg0, ht0, hv0, hd0, -⟩, -, -⟩ := h
  obtain rfl := Option.some.inj (gForms.symm.trans hg0)
  obtain rfl := Option.some.inj (tForms.symm.trans ht0)
  have kf : Tryd.prog.cellsOf 133 = 4 := by kernel_rfl
  obtain ⟨xs, m, -, hx, -, hn, hel⟩ := DataW.trod_array Tryd.underlying134 hd0
  have hx1 : DataW.agg (xs.map (·.1)) = d := (congrArg Prod.fst hx).symm
  rw [hd] at hx1
  injection hx1 with hx1
  have key : ∀ k, k < 12 → ∃ (s : ByteArray), W.cell? ⟨0, k * 4, none⟩ = some (.string s) ∧ s.data.toList = (opWord k).map UInt8.ofNat ∧ W.cell? ⟨0, k * 4 + 1, none⟩ = some (.int .i64 (kA k)) ∧ W.cell? ⟨0, k * 4 + 2, none⟩ = some (.int .i64 (kB k)) ∧ W.cell? ⟨0, k * 4 + 3, none⟩ = some (.int .i64 (kC k)) := fun k hk => by
    have hk1 := hel k hk
    obtain ⟨y, hy⟩ := get_lt hn hk
    rw [hy] at hk1
    obtain ⟨s, a, b, c, ecs, ey⟩ := trod_form hk1
    rw [kf] at ecs
    have hc : ∀ j, j < 4 → W.cell? ⟨0, k * 4 + j, none⟩ = [Value.string s, .int .i64 a, .int .i64 b, .int .i64 c][j]? := fun j hj => by
      rw [World.var?_cell hg0 hv0 (k * 4 + j), ← ecs, List.getElem?_take, if_pos hj, List.getElem?_drop]
      simp
    have hyk : (xs.map (·.1))[k]? = some y.1 := by rw [List.getElem?_map, hy]; rfl
    rw [hx1, ey] at hyk
    have hw : ((opWord k).map UInt8.ofNat, kA k, kB k, kC k) = (s.data.toList, a, b, c) := by
      match k, hk with
      | 0, _ | 1, _ | 2, _ | 3, _ | 4, _ | 5, _ | 6, _ | 7, _ | 8, _ | 9, _ | 10, _ | 11, _ =>
        simp at hyk
        obtain ⟨h1, h2, h3, h4⟩ := hyk
        simp [opWord, kA, kB, kC, ← h1, ← h2, ← h3, ← h4]
    simp only [Prod.mk.injEq] at hw
    obtain ⟨w1, w2, w3, w4⟩ := hw
    refine ⟨s, by first | (simp; done) | simpa using hc 0 (by decide), w1.symm, ?_, ?_, ?_⟩
    · rw [w2]; first | (simp; done) | simpa using hc 1 (by decide)
    · rw [w3]; first | (simp; done) | simpa using hc 2 (by decide)
    · rw [w4]; first | (simp; done) | simpa using hc 3 (by decide)
  refine ⟨⟨?_, fun k hk => (key k hk).choose_spec.2.2⟩, fun k hk => ⟨_, (key k hk).choose_spec.1, (key k hk).choose_spec.2.1⟩⟩
  obtain ⟨s, hs, -⟩ := key 0 (by decide)
  exact Nat.lt_of_not_le fun hle => by
    have : W.heap[0]? = none := Array.getElem?_eq_none hle
    simp [World.cell?, this] at hs
end Go.Proofs.YtgdccmmcjicgkaaDoor
end
