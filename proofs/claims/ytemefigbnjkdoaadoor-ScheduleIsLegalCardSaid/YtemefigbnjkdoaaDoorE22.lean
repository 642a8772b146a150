/- The example of layer 40; the law ScheduleGraphs. -/
import Derived.Test.YtemefigbnjkdoaaDoorE20
import Derived.Test.YtemefigbnjkdoaaDoorE21
set_option linter.unusedVariables false
set_option linter.unusedSimpArgs false
namespace Go.Proofs.YtemefigbnjkdoaaDoor
open Go.RowKit

abbrev known1 : List Ins := [⟨1, 0, 0, 0⟩, ⟨2, 0, 0, 1⟩, ⟨2, 1, 0, 1⟩, ⟨5, 2, 0, 0⟩]
abbrev known2 : List Ins := [⟨6, 0, 0, 0⟩, ⟨10, 0, 0, 0⟩, ⟨6, 1, 1, 0⟩, ⟨7, 1, 2, 0⟩, ⟨0, 0, 0, 0⟩]
theorem known1_dep : depD known1 = [[], [0], [0], [0, 1, 2]] ∧ depE known1 = 0 := by decide +kernel
theorem known2_gr : grD known2 = [⟨6, 0, 0, 0⟩, ⟨6, 1, 1, 0⟩, ⟨10, 0, 0, 0⟩, ⟨7, 1, 2, 0⟩, ⟨0, 0, 0, 0⟩] ∧ depE known2 = 0 := by decide +kernel
theorem known1_ok : ∀ i ∈ known1, i.ok := by unfold Ins.ok I64; decide +kernel
theorem known2_ok : ∀ i ∈ known2, i.ok := by unfold Ins.ok I64; decide +kernel
theorem depD_len (l : List Ins) : (depD l).length ≤ 512 ∧ ∀ d ∈ depD l, d.length ≤ 512 := by
  unfold depD
  split
  · rename_i h
    have h5 := fineF_len h
    refine ⟨by unfold depsF; rw [depT_length]; exact h5.2, fun d hd => ?_⟩
    unfold depsF depT at hd
    obtain ⟨j, hj, rfl⟩ := List.mem_map.1 hd
    have hj : j < l.length := by simpa using hj
    rw [if_pos hj]
    have := depRow_len l j j
    omega
  · exact ⟨by simp, fun d hd => by simp at hd⟩
theorem htD_len (l : List Ins) : (htD l).length ≤ 512 := by
  unfold htD
  split
  · rename_i h
    have h5 := fineF_len h
    rw [(htF_in l h5.2).1]; exact h5.2
  · simp
theorem grF_len (l : List Ins) : (grF l).length = l.length := (gr_inv l (htF l) l.length (Nat.le_refl _)).2.2.1
theorem grD_len (l : List Ins) : (grD l).length ≤ 512 := by
  unfold grD
  split
  · rename_i h
    rw [grF_len]; exact (fineF_len h).2
  · simp
set_option maxRecDepth 100000 in
set_option maxHeartbeats 8000000 in
theorem known40 (w : World) (hf : FormsAt w) : Calls Tryd.prog 6 #[] w fun e w' => e = .returned (.bool true) ∧ Below w.heap.size w w' := by
  have HF := Lib.hid hf
  have CD : Hid (∀ w1 A c, Below w.heap.size w w1 → InsAt w1 A known1 → Calls Tryd.prog 7 #[.slice A 4 c] w1 fun e w' => ∃ DA dc, e = .returned (.tuple #[.slice DA 4 dc, .int .i64 0]) ∧ IntsL w' DA [[], [0], [0], [0, 1, 2]] ∧ Below w1.heap.size w1 w') := fun w1 A c hb hi => by
    have := sc_Depends A 4 c known1 w1 (HF.out.grow hb) hi rfl (by decide)
    rw [known1_dep.1, known1_dep.2] at this
    exact this
  have CG : Hid (∀ w1 A c, Below w.heap.size w w1 → InsAt w1 A known2 → Calls Tryd.prog 13 #[.slice A 5 c] w1 fun e w' => ∃ DA dc, e = .returned (.tuple #[.slice DA 5 dc, .int .i64 0]) ∧ InsAt w' DA [⟨6, 0, 0, 0⟩, ⟨6, 1, 1, 0⟩, ⟨10, 0, 0, 0⟩, ⟨7, 1, 2, 0⟩, ⟨0, 0, 0, 0⟩] ∧ Below w1.heap.size w1 w') := fun w1 A c hb hi => by
    have := sc_Greedy A 5 c known2 w1 (HF.out.grow hb) hi rfl (by decide)
    rw [known2_gr.1, known2_gr.2] at this
    refine this.mono fun e w' h => ?_
    obtain ⟨A, c, h1, h2, h3⟩ := h.form
    exact ⟨A, c, h1, h2, h3⟩
  clear hf
  go_enter Tryd.func6, Tryd.ntmps6
  go_upto_region 2 with (first
    | ((with_reducible show wpList _ _ _ (Oper.mk (some 10) _ _ _ _ _ :: _) _ _); refine bld_ins4 ⟨1, 0, 0, 0⟩ ⟨2, 0, 0, 1⟩ ⟨2, 1, 0, 1⟩ ⟨5, 2, 0, 0⟩ rfl _ _ _ _ rfl rfl rfl rfl rfl ?_)
    | (go_at_call 7; (with_reducible refine (CD.out _ _ _ (litI_below w known1) (InsAt.lit known1_ok)).mono ?_); rintro e1 w1 ⟨DA, dc, rfl, hd, hb1⟩))
  have hb2 := below_then (litI_below w known1) hb1
  have HD := Lib.hid hd
  have HB2 := Lib.hid hb2
  clear hd hb1 hb2
  go_upto_region 3 with (first
    | ((with_reducible show wpList _ _ _ (Oper.mk (some 20) _ _ _ _ _ :: _) _ _); refine bld_ins5 ⟨6, 0, 0, 0⟩ ⟨10, 0, 0, 0⟩ ⟨6, 1, 1, 0⟩ ⟨7, 1, 2, 0⟩ ⟨0, 0, 0, 0⟩ rfl _ _ _ _ _ rfl rfl rfl rfl rfl rfl ?_)
    | (go_at_call 13; (with_reducible refine (CG.out _ _ _ (below_then HB2.out (litI_below w1 known2)) (InsAt.lit known2_ok)).mono ?_); rintro e2 w2 ⟨GA, gc, rfl, hg, hb3⟩))
  have hb4 := below_then (litI_below w1 known2) hb3
  have HB4 := Lib.hid (below_then HB2.out hb4)
  obtain ⟨dd, B2, c2, rfl, d2, -⟩ := (HD.out.grow hb4).row (k := 2) rfl
  obtain ⟨dd3, B3, c3, e3, d3, -⟩ := (HD.out.grow hb4).row (k := 3) rfl
  obtain rfl : dd = dd3 := Option.some.inj e3
  obtain ⟨ga, ea, -, -, -, -⟩ := hg 1 _ rfl
  subst ea
  have g1 := ins_opA hg (k := 1) rfl rfl
  have g2 := ins_opA hg (k := 2) rfl rfl
  clear hg hb3 hb4 e3
  simp [Addr.add] at d2 d3 g1 g2
  go_wp2_with fail
  go_ret
  exact ⟨rfl, HB4.out⟩
set_option maxRecDepth 100000 in
set_option maxHeartbeats 8000000 in
theorem law_ScheduleGraphs (u : Option Addr × Nat × List Ins) (w : World) (hf : FormsAt w) (hI : InsAt w u.1 u.2.2 ∧ u.2.2.length ≤ 9223372036854775807) :
    Calls Tryd.prog 3 #[.slice u.1 u.2.2.length u.2.1] w fun e w' => e = .returned (.bool true) ∧ Below w.heap.size w w' := by
  obtain ⟨A, c, l⟩ := u
  obtain ⟨hi, h9⟩ := hI
  simp only at hi h9 ⊢
  obtain ⟨n, hn⟩ : ∃ n, l.length = n := ⟨_, rfl⟩
  rw [hn] at h9 ⊢
  have CK : Hid (∀ w1, Below w.heap.size w w1 → Calls Tryd.prog 6 #[] w1 fun e w' => e = .returned (.bool true) ∧ Below w1.heap.size w1 w') := fun w1 hb => known40 w1 (hf.grow hb)
  by_cases hlen : 40 < n
  · clear hi hn hf
    go_enter Tryd.func3, Tryd.ntmps3
    go_wp2_with (go_at_call 6; (with_reducible refine (CK.out _ (Below.refl _ _)).mono ?_); rintro e1 w1 ⟨rfl, hb1⟩)
    go_ret
    exact ⟨rfl, hb1⟩
  · have h1 := fun w1 (hb : Below w.heap.size w w1) => sc_Depends A n c l w1 (hf.grow hb) (hi.grow hb) hn h9
    have h2 := fun w1 (hb : Below w.heap.size w w1) => r40_Depends A n c l w1 (hi.grow hb) hn h9
    have h3 := fun w1 (hb : Below w.heap.size w w1) => sc_Heights A n c l w1 (hf.grow hb) (hi.grow hb) hn h9
    have h4 := fun w1 (hb : Below w.heap.size w w1) => r40_Heights A n c l w1 (hi.grow hb) hn h9
    have h5 := fun w1 (hb : Below w.heap.size w w1) => sc_Lower A n c l w1 (hf.grow hb) (hi.grow hb) hn h9
    have h6 := fun w1 (hb : Below w.heap.size w w1) => r40_Lower A n c l w1 (hi.grow hb) hn h9
    have h7 := fun w1 (hb : Below w.heap.size w w1) => sc_Greedy A n c l w1 (hf.grow hb) (hi.grow hb) hn h9
    have h8 := fun w1 (hb : Below w.heap.size w w1) => r40_Greedy A n c l w1 (hi.grow hb) hn h9
    have sD : (depD l).length ≤ 512 ∧ ∀ d ∈ depD l, d.length ≤ 512 := depD_len l
    have sH : (htD l).length ≤ 512 := htD_len l
    have sG : (grD l).length ≤ 512 := grD_len l
    obtain ⟨E, hE⟩ : ∃ E, depE l = E := ⟨_, rfl⟩
    obtain ⟨D, hD⟩ : ∃ E, depD l = E := ⟨_, rfl⟩
    obtain ⟨H, hH⟩ : ∃ E, htD l = E := ⟨_, rfl⟩
    obtain ⟨X, hX⟩ : ∃ E, lowD l = E := ⟨_, rfl⟩
    obtain ⟨G, hG⟩ : ∃ E, grD l = E := ⟨_, rfl⟩
    rw [hE, hD] at h1 h2
    rw [hE, hH] at h3 h4
    rw [hE, hX] at h5 h6
    rw [hE, hG] at h7 h8
    rw [hD] at sD
    rw [hH] at sH
    rw [hG] at sG
    obtain ⟨dn, hdn⟩ : ∃ k, D.length = k := ⟨_, rfl⟩
    obtain ⟨hn2, hhn⟩ : ∃ k, H.length = k := ⟨_, rfl⟩
    obtain ⟨gn, hgn⟩ : ∃ k, G.length = k := ⟨_, rfl⟩
    have C1 : Hid (∀ w1, Below w.heap.size w w1 → Calls Tryd.prog 7 #[.slice A n c] w1 fun e w' => ∃ R rc, e = .returned (.tuple #[.slice R dn rc, .int .i64 E]) ∧ IntsL w' R D ∧ Below w1.heap.size w1 w') := fun w1 hb => by rw [← hdn]; exact h1 w1 hb
    have C2 : Hid (∀ w1, Below w.heap.size w w1 → Calls Tryd.prog 8 #[.slice A n c] w1 fun e w' => ∃ R rc, e = .returned (.tuple #[.slice R dn rc, .int .i64 E]) ∧ IntsL w' R D ∧ Below w1.heap.size w1 w') := fun w1 hb => by rw [← hdn]; exact h2 w1 hb
    have C3 : Hid (∀ w1, Below w.heap.size w w1 → Calls Tryd.prog 9 #[.slice A n c] w1 fun e w' => ∃ R rc, e = .returned (.tuple #[.slice R hn2 rc, .int .i64 E]) ∧ Ints w' R H ∧ Below w1.heap.size w1 w') := fun w1 hb => by rw [← hhn]; exact (h3 w1 hb).mono fun e w' h => h.form
    have C4 : Hid (∀ w1, Below w.heap.size w w1 → Calls Tryd.prog 10 #[.slice A n c] w1 fun e w' => ∃ R rc, e = .returned (.tuple #[.slice R hn2 rc, .int .i64 E]) ∧ Ints w' R H ∧ Below w1.heap.size w1 w') := fun w1 hb => by rw [← hhn]; exact (h4 w1 hb).mono fun e w' h => h.form
    have C5 := Lib.hid h5
    have C6 := Lib.hid h6
    have C7 : Hid (∀ w1, Below w.heap.size w w1 → Calls Tryd.prog 13 #[.slice A n c] w1 fun e w' => ∃ R rc, e = .returned (.tuple #[.slice R gn rc, .int .i64 E]) ∧ InsAt w' R G ∧ Below w1.heap.size w1 w') := fun w1 hb => by rw [← hgn]; exact (h7 w1 hb).mono fun e w' h => h.form
    have C8 : Hid (∀ w1, Below w.heap.size w w1 → Calls Tryd.prog 14 #[.slice A n c] w1 fun e w' => ∃ R rc, e = .returned (.tuple #[.slice R gn rc, .int .i64 E]) ∧ InsAt w' R G ∧ Below w1.heap.size w1 w') := fun w1 hb => by rw [← hgn]; exact (h8 w1 hb).mono fun e w' h => h.form
    rw [hdn] at sD
    rw [hhn] at sH
    rw [hgn] at sG
    have HS := Lib.hid sD.2
    have hsd := sD.1
    have HDN := Lib.hid hdn
    have HHN := Lib.hid hhn
    have HGN := Lib.hid hgn
    clear h1 h2 h3 h4 h5 h6 h7 h8 hE hD hH hX hG hdn hhn hgn sD hi hf hn h9
    go_enter Tryd.func3, Tryd.ntmps3
    go_upto_region 4 with (go_at_call 7; (with_reducible refine (C1.out _ (Below.refl _ _)).mono ?_); rintro e1 w1 ⟨R1, k1, rfl, i1, b1⟩)
    go_upto_region 5 with (go_at_call 8; (with_reducible refine (C2.out _ b1).mono ?_); rintro e1 w2 ⟨R2, k2, rfl, i2, b2⟩)
    have B2 := below_then b1 b2
    go_upto_region 6 with (go_at_call 9; (with_reducible refine (C3.out _ B2).mono ?_); rintro e1 w3 ⟨R3, k3, rfl, i3, b3⟩)
    have B3 := below_then B2 b3
    go_upto_region 7 with (go_at_call 10; (with_reducible refine (C4.out _ B3).mono ?_); rintro e1 w4 ⟨R4, k4, rfl, i4, b4⟩)
    have B4 := below_then B3 b4
    go_upto_region 8 with (go_at_call 11; (with_reducible refine (C5.out _ B4).mono ?_); rintro e1 w5 ⟨rfl, b5⟩)
    have B5 := below_then B4 b5
    go_upto_region 9 with (go_at_call 12; (with_reducible refine (C6.out _ B5).mono ?_); rintro e1 w6 ⟨rfl, b6⟩)
    have B6 := below_then B5 b6
    go_upto_region 10 with (go_at_call 13; (with_reducible refine (C7.out _ B6).mono ?_); rintro e1 w7 ⟨R7, k7, rfl, i7, b7⟩)
    have B7 := below_then B6 b7
    go_upto_region 11 with (go_at_call 14; (with_reducible refine (C8.out _ B7).mono ?_); rintro e1 w8 ⟨R8, k8, rfl, i8, b8⟩)
    have HB8 := Lib.hid (below_then B7 b8)
    have b78 := below_then b7 b8
    have b68 := below_then b6 b78
    have b58 := below_then b5 b68
    have b48 := below_then b4 b58
    have b38 := below_then b3 b48
    have I1 := Lib.hid (i1.grow (below_then b2 b38))
    have I2 := Lib.hid (i2.grow b38)
    have I3 := Lib.hid (i3.grow b48)
    have I4 := Lib.hid (i4.grow b58)
    have I7 := Lib.hid (i7.grow b8)
    have I8 := Lib.hid i8
    clear i1 i2 i3 i4 i7 i8 b1 b2 b3 b4 b5 b6 b7 b8 B2 B3 B4 B5 B6 B7 b78 b68 b58 b48 b38 C1 C2 C3 C4 C5 C6 C7 C8
    go_wp2_with fail
    go_loopw [19] (fun x wr => ∃ k : Nat, k ≤ dn ∧ x = .int .i64 k ∧ Hid (Below w8.heap.size w8 wr)) (fun x _ => dn - (intOf x).toNat)
    case atStart => exact ⟨0, Nat.zero_le _, rfl, Lib.hid (Below.refl _ _)⟩
    case round =>
      obtain ⟨k, hk, rfl, HW⟩ := hrel
      by_cases hlt : k < dn
      · obtain ⟨d, hd⟩ : ∃ d, D[k]? = some d := ⟨_, List.getElem?_eq_getElem (by rw [HDN.out]; exact hlt)⟩
        obtain ⟨ad, A1, c1, e1, s1, b1, r1⟩ := (I1.out.grow HW.out) k d hd
        obtain ⟨bd, A2, c2, e2, s2, b2, r2⟩ := (I2.out.grow HW.out) k d hd
        subst e1 e2
        have hdl := HS.out d (List.mem_of_getElem? hd)
        obtain ⟨m, hm⟩ : ∃ m, d.length = m := ⟨_, rfl⟩
        have HM := Lib.hid hm
        rw [hm] at b1 b2 hdl
        have CS : Hid (∀ w1, Below wr.heap.size wr w1 → Calls Tryd.prog 15 #[.slice A1 m c1, .slice A2 m c2] w1 fun e w' => e = .returned (.bool true) ∧ Below w1.heap.size w1 w') := fun w1 hb => rf_SameN A1 A2 d d c1 c2 m m w1 HM.out HM.out (by omega) rfl (r1.grow hb) (r2.grow hb)
        have z1 : ∀ n : Ext wr, n.to.cell? (ad.add k) = some (.slice A1 m c1) := fun n => (n.cell _ (by rw [block_add]; exact s1)).trans b1
        have z2 : ∀ n : Ext wr, n.to.cell? (bd.add k) = some (.slice A2 m c2) := fun n => (n.cell _ (by rw [block_add]; exact s2)).trans b2
        have x1 : (0 : Int) ≤ (k : Int) := by omega
        have x2 : (k : Int) < (dn : Int) := by omega
        have wk : IntKind.i64.wrap ((k : Int) + 1) = ((k + 1 : Nat) : Int) := (IntWalk.i64_in _ (by omega)).trans (by omega)
        clear s1 s2 b1 b2 r1 r2 hd hm
        go_upto_region 16 with fail
        refine wp_region_ext (by kernel_rfl) (by kernel_rfl) ?_
        repeat (go_big_quiet_step (first | (go_at_call 15; exact ext_below (CS.out _ (Ext.below _)))))
        refine wpQuiet_nil ?_
        rintro _ ⟨⟨w9, hb9⟩, rfl⟩
        have HB9 := Lib.hid (below_then HW.out hb9)
        clear hb9
        go_wp2_with fail
        go_roundw
        case rel => exact ⟨k + 1, by omega, rfl, HB9⟩
        case measure => simp [intOf]; omega
      · obtain rfl : k = dn := by omega
        have hlo : ¬ (k : Int) < (k : Int) := by omega
        have CS : Hid (∀ w1, Below wr.heap.size wr w1 → Calls Tryd.prog 15 #[.slice R3 hn2 k3, .slice R4 hn2 k4] w1 fun e w' => e = .returned (.bool true) ∧ Below w1.heap.size w1 w') := fun w1 hb => rf_SameN R3 R4 H H k3 k4 hn2 hn2 w1 HHN.out HHN.out (by omega) rfl (I3.out.grow (below_then HW.out hb)) (I4.out.grow (below_then HW.out hb))
        have CC : Hid (∀ w1, Below wr.heap.size wr w1 → Calls Tryd.prog 16 #[.slice R7 gn k7, .slice R8 gn k8] w1 fun e w' => e = .returned (.bool true) ∧ Below w1.heap.size w1 w') := fun w1 hb => r38_SameCode R7 R8 gn k7 k8 G w1 (I7.out.grow (below_then HW.out hb)) (I8.out.grow (below_then HW.out hb)) HGN.out (by omega)
        have HBW := Lib.hid (below_then HB8.out HW.out)
        go_wp2_with (first
          | (go_at_call 6; (with_reducible refine (CK.out _ HBW.out).mono ?_); rintro e1 w10 ⟨rfl, hb10⟩)
          | (go_at_call 15; (with_reducible refine (CS.out _ hb10).mono ?_); rintro e1 w11 ⟨rfl, hb11⟩; have hb12 := below_then hb10 hb11)
          | (go_at_call 16; (with_reducible refine (CC.out _ hb12).mono ?_); rintro e1 w13 ⟨rfl, hb13⟩))
        go_ret
        exact ⟨rfl, below_then HBW.out (below_then hb12 hb13)⟩
end Go.Proofs.YtemefigbnjkdoaaDoor
