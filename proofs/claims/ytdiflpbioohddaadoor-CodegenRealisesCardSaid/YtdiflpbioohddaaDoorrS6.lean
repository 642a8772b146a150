/- Buffers in the reference of the processor: rings, inRing. -/
import Derived.Test.YtdiflpbioohddaaDoorrS5
set_option linter.unusedVariables false
set_option linter.unusedSimpArgs false
namespace Go.Proofs.YtdiflpbioohddaaDoor
open Go.RowKit
theorem ring_ext {w : World} {A : Option Addr} {l : List (Int × Int)} (h : RingsAt w A l) {k : Nat} {x : Int × Int} (hk : l[k]? = some x) :
    ∃ ad, A = some ad ∧ (∀ n : Ext w, n.to.cell? (ad.add (k * 2)) = some (.int .i64 x.1)) ∧ (∀ n : Ext w, n.to.cell? ⟨(ad.add (k * 2)).block, (ad.add (k * 2)).off + 1, none⟩ = some (.int .i64 x.2)) ∧ I64 x.1 ∧ I64 x.2 := by
  obtain ⟨ad, e, hs, hb, hr, hok⟩ := h k x hk
  obtain ⟨r0, r1⟩ := ring_cells hs hr
  exact ⟨ad, e, fun n => (n.below.cell (p := ad.add (k * 2)) (by rw [block_add]; exact hb)).trans r0, fun n => (n.below.cell (p := ⟨(ad.add (k * 2)).block, (ad.add (k * 2)).off + 1, none⟩) (by rw [block_add]; exact hb)).trans r1, hok.1, hok.2⟩
theorem in_is {v lo hi : Int} {c : Bool} (h : inB v lo hi = c) (w : World) : Calls Tryd.prog 32 #[.int .i64 v, .int .i64 lo, .int .i64 hi] w fun e w' => e = .returned (.bool c) ∧ w = w' := by
  rw [← h]; exact rf_In v lo hi w
theorem ringIn_and (x : Int × Int) : ringIn x = (inB x.1 0 127 && inB x.2 1 (128 - x.1)) := by
  unfold ringIn inB
  rw [Bool.eq_iff_iff]
  simp only [decide_eq_true_eq, Bool.and_eq_true]
  omega
set_option maxRecDepth 100000 in
set_option maxHeartbeats 4000000 in
theorem r38_rings (A : Option Addr) (n c : Nat) (l : List (Int × Int)) (w : World) (h : RingsAt w A l) (hn : l.length = n) (h9 : n ≤ 9223372036854775807) : Calls Tryd.prog 103 #[.slice A n c] w fun e w' => e = .returned (.bool (ringsB l)) ∧ Below w.heap.size w w' := by
  have HI := Lib.hid h
  have HN := Lib.hid hn
  obtain ⟨R, hR⟩ : ∃ R, ringsB l = R := ⟨_, rfl⟩
  rw [hR]
  have HR := Lib.hid hR
  clear h hn hR
  by_cases h8 : n ≤ 8
  · have h81 : ¬ (8 : Int) < (n : Int) := by omega
    have HB8 : Hid (ringsK l n = R) := by
      rw [← HR.out]; unfold ringsB
      rw [HN.out, decide_eq_true h8, Bool.true_and]
      exact Lib.hid rfl
    have HNO : Hid (∀ k, k ≤ n → ringsK l k = false → R = false) := Lib.hid fun k hk hf => by
      rw [← HR.out]; exact ringsB_no (by rw [HN.out]; exact hk) hf
    go_enter Tryd.func103, Tryd.ntmps103
    go_wp2_with fail
    go_loopw [3] (fun x wr => ∃ k : Nat, k ≤ n ∧ x = .int .i64 k ∧ Hid (ringsK l k = true) ∧ Hid (Below w.heap.size w wr)) (fun x _ => n - (intOf x).toNat)
    case atStart => exact ⟨0, Nat.zero_le _, rfl, Lib.hid rfl, Lib.hid (Below.refl _ _)⟩
    case round =>
      obtain ⟨k, hk, rfl, HK, HB⟩ := hrel
      by_cases hlt : k < n
      · obtain ⟨⟨xb, xl⟩, hx⟩ : ∃ x, l[k]? = some x := ⟨_, List.getElem?_eq_getElem (by rw [HN.out]; exact hlt)⟩
        obtain ⟨ad, hA, y1, y2, ok1, ok2⟩ := ring_ext (HI.out.grow HB.out) hx
        subst hA
        simp only at y1 y2 ok1 ok2
        obtain ⟨i1, i2⟩ := ok1
        obtain ⟨i3, i4⟩ := ok2
        have HX : Hid (l.getD k (0, 0) = (xb, xl)) := by rw [List.getD_eq_getElem?_getD, hx]; exact Lib.hid rfl
        have HTK := Lib.hid (take_snoc' hx)
        clear hx
        have q1 : (0 : Int) ≤ (k : Int) := by omega
        have q2 : (k : Int) < (n : Int) := by omega
        have q3 : k < n := hlt
        have wk : IntKind.i64.wrap ((k : Int) + 1) = ((k + 1 : Nat) : Int) := (IntWalk.i64_in _ (by omega)).trans (by omega)
        obtain ⟨b1, hb1⟩ : ∃ c, inB xb 0 127 = c := ⟨_, rfl⟩
        have HRI := ringIn_and (xb, xl)
        simp only at HRI
        rw [hb1] at HRI
        have H1 := Lib.hid hb1
        have HBW := Lib.hid HB.out
        cases b1 with
        | false =>
          have HBAD : Hid (R = false) := HNO.out (k + 1) (by omega) (by unfold ringsK; rw [HX.out, HRI]; simp)
          clear hb1 HRI
          go_upto_region 6 with fail
          refine wp_region_ext (by kernel_rfl) (by kernel_rfl) ?_
          repeat (go_big_quiet_step (first | (go_at_call 32; exact ext_same (in_is H1.out _))))
          refine wpQuiet_nil ?_
          rintro w3 ⟨⟨_, hb3⟩, rfl⟩
          go_wp2_with fail
          go_ret
          exact ⟨by rw [HBAD.out]; rfl, below_then HB.out hb3⟩
        | true =>
          have hx2 := inB_iff.1 hb1
          have ws : IntKind.i64.wrap (128 - xb) = 128 - xb := IntWalk.i64_in _ (by omega)
          obtain ⟨b2, hb2⟩ : ∃ c, inB xl 1 (128 - xb) = c := ⟨_, rfl⟩
          rw [hb2] at HRI
          have H2 := Lib.hid hb2
          cases b2 with
          | false =>
            have HBAD : Hid (R = false) := HNO.out (k + 1) (by omega) (by unfold ringsK; rw [HX.out, HRI]; simp)
            clear hb1 HRI hb2
            go_upto_region 6 with fail
            refine wp_region_ext (by kernel_rfl) (by kernel_rfl) ?_
            repeat (go_big_quiet_step ((go_at_call 32; (first | (with_reducible exact ext_same (in_is H1.out _)) | (with_reducible exact ext_same (in_is H2.out _))))))
            refine wpQuiet_nil ?_
            rintro w3 ⟨⟨_, hb3⟩, rfl⟩
            go_wp2_with fail
            go_ret
            exact ⟨by rw [HBAD.out]; rfl, below_then HB.out hb3⟩
          | true =>
            have HRI1 : Hid (ringIn (xb, xl) = true) := Lib.hid HRI
            have hl2 := inB_iff.1 hb2
            clear hb1 HRI hb2
            go_upto_region 6 with fail
            refine wp_region_ext (by kernel_rfl) (by kernel_rfl) ?_
            repeat (go_big_quiet_step ((go_at_call 32; (first | (with_reducible exact ext_same (in_is H1.out _)) | (with_reducible exact ext_same (in_is H2.out _))))))
            refine wpQuiet_nil ?_
            rintro w3 ⟨⟨_, hb3⟩, rfl⟩
            have HB3 := Lib.hid (below_then HB.out hb3)
            clear hb3 y1 y2 H1 H2 ws
            go_wp2_with fail
            go_loopw [4] (fun x wx => ∃ j : Nat, j ≤ k ∧ x = .int .i64 j ∧ Hid ((l.take j).any (clash (xb, xl)) = false) ∧ Hid (Below w.heap.size w wx)) (fun x _ => k - (intOf x).toNat)
            case atStart => exact ⟨0, Nat.zero_le _, rfl, Lib.hid rfl, HB3⟩
            case round =>
              obtain ⟨j, hj, rfl, HC, HBj⟩ := hrel
              by_cases hjk : j < k
              · obtain ⟨⟨zb, zl⟩, hz⟩ : ∃ x, l[j]? = some x := ⟨_, List.getElem?_eq_getElem (by rw [HN.out]; omega)⟩
                obtain ⟨x', hx'⟩ : ∃ x, l[k]? = some x := ⟨_, List.getElem?_eq_getElem (by rw [HN.out]; omega)⟩
                have hxx : x' = (xb, xl) := by
                  have h := HX.out
                  rw [List.getD_eq_getElem?_getD, hx'] at h
                  exact h
                subst hxx
                obtain ⟨ad1, hA1, y1, y2, -, -⟩ := ring_ext (HI.out.grow HBj.out) hx'
                injection hA1 with hA1
                subst hA1
                obtain ⟨ad2, hA2, z1, z2, -, -⟩ := ring_ext (HI.out.grow HBj.out) hz
                injection hA2 with hA2
                subst hA2
                simp only at y1 y2 z1 z2
                have HTJ := Lib.hid (take_snoc' hz)
                have hzi : ringIn (zb, zl) = true := ringsK_all HK.out (by rw [HN.out]; omega) _ (List.mem_of_getElem? (i := j) (by rw [List.getElem?_take, if_pos hjk]; exact hz))
                have hzr := ringIn_iff.1 hzi
                simp only at hzr
                have hxr := ringIn_iff.1 HRI1.out
                simp only at hxr
                clear hx' hz hzi
                have s1 : IntKind.i64.wrap (zb + zl) = zb + zl := IntWalk.i64_in _ (by omega)
                have s2 : IntKind.i64.wrap (xb + xl) = xb + xl := IntWalk.i64_in _ (by omega)
                have p1 : (0 : Int) ≤ (j : Int) := by omega
                have p2 : (j : Int) < (n : Int) := by omega
                have p3 : (j : Int) < (k : Int) := by omega
                have wj : IntKind.i64.wrap ((j : Int) + 1) = ((j + 1 : Nat) : Int) := (IntWalk.i64_in _ (by omega)).trans (by omega)
                by_cases hc1 : xb < zb + zl
                · have g1 : decide (xb < zb + zl) = true := decide_eq_true hc1
                  by_cases hc2 : zb < xb + xl
                  · have g2 : decide (zb < xb + xl) = true := decide_eq_true hc2
                    have HBAD : Hid (R = false) := HNO.out (k + 1) (by omega) (by
                      unfold ringsK
                      rw [HX.out]
                      have : (l.take k).any (clash (xb, xl)) = true := by
                        refine List.any_eq_true.2 ⟨(zb, zl), ?_, clash_iff.2 ⟨hc1, hc2⟩⟩
                        have h := HTJ.out
                        have h2 : (zb, zl) ∈ l.take (j + 1) := by rw [h]; simp
                        exact (List.take_subset_take_left l (by omega)) h2
                      rw [this]; simp)
                    clear hc1 hc2
                    go_upto_region 11 with fail
                    refine wp_region_ext (by kernel_rfl) (by kernel_rfl) ?_
                    repeat (go_big_quiet_step (fail))
                    refine wpQuiet_nil ?_
                    rintro w4 ⟨⟨_, hb4⟩, rfl⟩
                    go_wp2_with fail
                    go_ret
                    exact ⟨by rw [HBAD.out]; rfl, below_then HBj.out hb4⟩
                  · have g2 : decide (zb < xb + xl) = false := decide_eq_false hc2
                    have HC2 := Lib.hid hc2
                    clear hc1 hc2
                    go_upto_region 11 with fail
                    refine wp_region_ext (by kernel_rfl) (by kernel_rfl) ?_
                    repeat (go_big_quiet_step (fail))
                    refine wpQuiet_nil ?_
                    rintro w4 ⟨⟨_, hb4⟩, rfl⟩
                    go_wp2_with fail
                    go_roundw
                    case rel => exact ⟨j + 1, by omega, by go_num, by
                      rw [HTJ.out, List.any_append, HC.out, List.any_cons, List.any_nil]
                      have : clash (xb, xl) (zb, zl) = false := by unfold clash; exact decide_eq_false fun h => HC2.out h.2
                      rw [this]
                      exact Lib.hid rfl, Lib.hid (below_then HBj.out hb4)⟩
                    case measure => simp [intOf]; omega
                · have g1 : decide (xb < zb + zl) = false := decide_eq_false hc1
                  have HC2 := Lib.hid hc1
                  clear hc1
                  go_upto_region 11 with fail
                  refine wp_region_ext (by kernel_rfl) (by kernel_rfl) ?_
                  repeat (go_big_quiet_step (fail))
                  refine wpQuiet_nil ?_
                  rintro w4 ⟨⟨_, hb4⟩, rfl⟩
                  go_wp2_with fail
                  go_roundw
                  case rel => exact ⟨j + 1, by omega, by go_num, by
                    rw [HTJ.out, List.any_append, HC.out, List.any_cons, List.any_nil]
                    have : clash (xb, xl) (zb, zl) = false := by unfold clash; exact decide_eq_false fun h => HC2.out h.1
                    rw [this]
                    exact Lib.hid rfl, Lib.hid (below_then HBj.out hb4)⟩
                  case measure => simp [intOf]; omega
              · obtain rfl : j = k := by omega
                go_wp2_with fail
                go_roundw
                case rel => exact ⟨j + 1, by omega, by go_num, by
                  unfold ringsK
                  rw [HK.out, HX.out, HRI1.out, HC.out]
                  exact Lib.hid rfl, HBj⟩
                case measure => simp [intOf]; omega
      · obtain rfl : k = n := by omega
        go_wp2_with fail
        go_ret
        exact ⟨by rw [← HB8.out, HK.out]; rfl, HB.out⟩
  · have h81 : (8 : Int) < (n : Int) := by omega
    have HBAD : Hid (R = false) := by
      rw [← HR.out]; unfold ringsB
      rw [HN.out, decide_eq_false h8]
      exact Lib.hid rfl
    go_enter Tryd.func103, Tryd.ntmps103
    go_wp2_with fail
    go_ret
    exact ⟨by rw [HBAD.out]; rfl, Below.refl _ _⟩
set_option maxRecDepth 100000 in
set_option maxHeartbeats 4000000 in
theorem r38_inRing (d0 d1 d2 d3 c0 c1 c2 c3 : Int) (A : Option Addr) (n c : Nat) (V : Value) (l : List (Int × Int)) (m : Int) (w : World) (h : RingsAt w A l) (hn : l.length = n) (h8 : n ≤ 8) (hr : ∀ x ∈ l, ringIn x = true) :
    Calls Tryd.prog 113 #[.agg #[.int .i64 d0, .int .i64 d1, .int .i64 d2, .int .i64 d3, .int .i64 c0, .int .i64 c1, .int .i64 c2, .int .i64 c3, .slice A n c, V], .int .i64 m] w fun e w' => e = .returned (.bool (usdB l m)) ∧ Below w.heap.size w w' := by
  have HI := Lib.hid h
  have HN := Lib.hid hn
  have HRI := Lib.hid hr
  obtain ⟨U, hU⟩ : ∃ U, usdB l m = U := ⟨_, rfl⟩
  rw [hU]
  have HU := Lib.hid hU
  clear h hn hr hU
  go_enter Tryd.func113, Tryd.ntmps113
  go_upto_region 1 with fail
  obtain ⟨bp, hb0⟩ := entryP w [.int .i64 d0, .int .i64 d1, .int .i64 d2, .int .i64 d3, .int .i64 c0, .int .i64 c1, .int .i64 c2, .int .i64 c3, .slice A n c, V] _ rfl
  change Code.wp _ _ _ _ (w.alloc (.cells [.int .i64 d0, .int .i64 d1, .int .i64 d2, .int .i64 d3, .int .i64 c0, .int .i64 c1, .int .i64 c2, .int .i64 c3, .slice A n c, V].toArray 41))
  generalize (w.alloc (.cells [.int .i64 d0, .int .i64 d1, .int .i64 d2, .int .i64 d3, .int .i64 c0, .int .i64 c1, .int .i64 c2, .int .i64 c3, .slice A n c, V].toArray 41)) = W0 at bp hb0 ⊢
  have HB0 := Lib.hid hb0
  have HBP0 := Lib.hid bp
  clear hb0 bp
  generalize hgp : w.heap.size = gp at HBP0 ⊢
  have HGP := Lib.hid hgp
  obtain ⟨L, hL⟩ : ∃ L : List Value, [.int .i64 d0, .int .i64 d1, .int .i64 d2, .int .i64 d3, .int .i64 c0, .int .i64 c1, .int .i64 c2, .int .i64 c3, .slice A n c, V] = L := ⟨_, rfl⟩
  rw [hL] at HBP0
  have HL8 : Hid (L[8]? = some (.slice A n c)) := by rw [← hL]; exact Lib.hid rfl
  clear hL hgp
  go_wp2_with fail
  go_loopw [5] (fun x wr => ∃ k : Nat, k ≤ n ∧ x = .int .i64 k ∧ Hid (usdB (l.take k) m = false) ∧ Hid (Box wr gp L) ∧ Hid (Below w.heap.size w wr)) (fun x _ => n - (intOf x).toNat)
  case atStart => exact ⟨0, Nat.zero_le _, rfl, Lib.hid rfl, HBP0, HB0⟩
  case round =>
    obtain ⟨k, hk, rfl, HK, HBP, HB⟩ := hrel
    have x8 : wr.cell? ⟨gp, 8, none⟩ = some (.slice A n c) := (HBP.out.2.1 8).trans HL8.out
    by_cases hlt : k < n
    · obtain ⟨⟨xb, xl⟩, hx⟩ : ∃ x, l[k]? = some x := ⟨_, List.getElem?_eq_getElem (by rw [HN.out]; exact hlt)⟩
      obtain ⟨ad, hA, y1, y2, -, -⟩ := ring_ext (HI.out.grow HB.out) hx
      subst hA
      simp only at y1 y2
      have hxr := ringIn_iff.1 (HRI.out _ (List.mem_of_getElem? hx))
      simp only at hxr
      have HTK := Lib.hid (take_snoc' hx)
      have e8 := HBP.out.ext HL8.out
      have HMEM := Lib.hid (List.mem_of_getElem? hx)
      clear hx
      have q1 : (0 : Int) ≤ (k : Int) := by omega
      have q2 : (k : Int) < (n : Int) := by omega
      have wk : IntKind.i64.wrap ((k : Int) + 1) = ((k + 1 : Nat) : Int) := (IntWalk.i64_in _ (by omega)).trans (by omega)
      have s1 : IntKind.i64.wrap (xb + xl) = xb + xl := IntWalk.i64_in _ (by omega)
      have s2 : IntKind.i64.wrap (xb + xl - 1) = xb + xl - 1 := IntWalk.i64_in _ (by omega)
      obtain ⟨b1, hb1⟩ : ∃ c, inB m xb (xb + xl - 1) = c := ⟨_, rfl⟩
      have HRV : Hid (inR m (xb, xl) = b1) := by
        rw [← hb1]
        unfold inR inB
        refine Lib.hid ?_
        rw [Bool.eq_iff_iff]
        simp only [decide_eq_true_eq, Bool.and_eq_true]
        omega
      have H1 := Lib.hid hb1
      clear hb1
      go_upto_region 4 with fail
      refine wp_region_ext (by kernel_rfl) (by kernel_rfl) ?_
      repeat (go_big_quiet_step (first | (go_at_call 32; exact ext_same (in_is H1.out _))))
      refine wpQuiet_nil ?_
      rintro w3 ⟨⟨_, hb3⟩, rfl⟩
      cases b1 with
      | true =>
        go_wp2_with fail
        go_ret
        exact ⟨by rw [← HU.out]; unfold usdB; rw [List.any_eq_true.2 ⟨_, HMEM.out, HRV.out⟩]; rfl, below_then HB.out hb3⟩
      | false =>
        go_wp2_with fail
        go_roundw
        case rel => exact ⟨k + 1, by omega, by go_num, by
          unfold usdB
          rw [HTK.out, List.any_append, List.any_cons, List.any_nil, HRV.out]
          have h := HK.out
          unfold usdB at h
          rw [h]
          exact Lib.hid rfl, Lib.hid (HBP.out.keep hb3), Lib.hid (below_then HB.out hb3)⟩
        case measure => simp [intOf]; omega
    · obtain rfl : k = n := by omega
      go_wp2_with fail
      go_ret
      exact ⟨by rw [← HU.out]; have h := HK.out; rw [List.take_of_length_le (by rw [HN.out]; exact Nat.le_refl _)] at h; rw [h]; rfl, HB.out⟩
end Go.Proofs.YtdiflpbioohddaaDoor
