/- The example of layer 40; the law ScheduleGraphs. -/
import Derived.Test.YtpmbgcfnehplaaaDoorE20
import Derived.Test.YtpmbgcfnehplaaaDoorE21
set_option linter.unusedVariables false
set_option linter.unusedSimpArgs false
namespace Go.Proofs.YtpmbgcfnehplaaaDoor
open Go.RowKit

abbrev known1 : List Ins := [⟨1, 0, 0, 0⟩, ⟨2, 0, 0, 1⟩, ⟨2, 1, 0, 1⟩, ⟨5, 2, 0, 0⟩]
abbrev known2 : List Ins := [⟨6, 0, 0, 0⟩, ⟨10, 0, 0, 0⟩, ⟨6, 1, 1, 0⟩, ⟨7, 1, 2, 0⟩, ⟨0, 0, 0, 0⟩]
theorem known1_dep : depD known1 = [[], [0], [0], [0, 1, 2]] ∧ depE known1 = 0 := by decide +kernel
theorem known2_gr : grD known2 = [⟨6, 0, 0, 0⟩, ⟨6, 1, 1, 0⟩, ⟨10, 0, 0, 0⟩, ⟨7, 1, 2, 0⟩, ⟨0, 0, 0, 0⟩] ∧ depE known2 = 0 := by decide +kernel
theorem known1_ok : ∀ i ∈ known1, i.ok := by unfold Ins.ok I64; decide +kernel
theorem known2_ok : ∀ i ∈ known2, i.ok := by unfold Ins.ok I64; decide +kernel
theorem depD_len (l : List Ins) : (depD l).length ≤ 512 ∧ ∀ d ∈ depD l, d.length ≤ 512 := by
  unfold depD
  split
  · rename_i h
    have h5 := fineF_len h
    refine ⟨by unfold depsF; rw [depT_length]; exact h5.2, fun d hd => ?_⟩
    unfold depsF depT at hd
    obtain ⟨j, hj, rfl⟩ := List.mem_map.1 hd
    have hj : j < l.length := by simpa using hj
    rw [if_pos hj]
    have := depRow_len l j j
    omega
  · exact ⟨by simp, fun d hd => by simp at hd⟩
theorem htD_len (l : List Ins) : (htD l).length ≤ 512 := by
  unfold htD
  split
  · rename_i h
    have h5 := fineF_len h
    rw [(htF_in l h5.2).1]; exact h5.2
  · simp
theorem grF_len (l : List Ins) : (grF l).length = l.length := (gr_inv l (htF l) l.length (Nat.le_refl _)).2.2.1
theorem grD_len (l : List Ins) : (grD l).length ≤ 512 := by
  unfold grD
  split
  · rename_i h
    rw [grF_len]; exact (fineF_len h).2
  · simp
set_option maxRecDepth 100000 in
set_option maxHeartbeats 8000000 in
theorem known40 (w : World) (hf : FormsAt w) : Calls Tryd.prog 9 #[] w fun e w' => e = .returned (.bool true) ∧ Below w.heap.size w w' := by
  have HF := Lib.hid hf
  have CD : Hid (∀ w1 A c, Below w.heap.size w w1 → InsAt w1 A known1 → Calls Tryd.prog 28 #[.slice A 4 c] w1 fun e w' => ∃ DA dc, e = .returned (.tuple #[.slice DA 4 dc, .int .i64 0]) ∧ IntsL w' DA [[], [0], [0], [0, 1, 2]] ∧ Below w1.heap.size w1 w') := fun w1 A c hb hi => by
    have := sc_Depends A 4 c known1 w1 (HF.out.grow hb) hi rfl (by decide)
    rw [known1_dep.1, known1_dep.2] at this
    exact this
  have CG : Hid (∀ w1 A c, Below w.heap.size w w1 → InsAt w1 A known2 → Calls Tryd.prog 17 #[.slice A 5 c] w1 fun e w' => ∃ DA dc, e = .returned (.tuple #[.slice DA 5 dc, .int .i64 0]) ∧ InsAt w' DA [⟨6, 0, 0, 0⟩, ⟨6, 1, 1, 0⟩, ⟨10, 0, 0, 0⟩, ⟨7, 1, 2, 0⟩, ⟨0, 0, 0, 0⟩] ∧ Below w1.heap.size w1 w') := fun w1 A c hb hi => by
    have := sc_Greedy A 5 c known2 w1 (HF.out.grow hb) hi rfl (by decide)
    rw [known2_gr.1, known2_gr.2] at this
    refine this.mono fun e w' h => ?_
    obtain ⟨A, c, h1, h2, h3⟩ := h.form
    exact ⟨A, c, h1, h2, h3⟩
  clear hf
  go_enter Tryd.func9, Tryd.ntmps9
  go_upto_region 2 with (first
    | ((with_reducible show wpList _ _ _ (Oper.mk (some 10) _ _ _ _ _ :: _) _ _); refine bld_ins4 ⟨1, 0, 0, 0⟩ ⟨2, 0, 0, 1⟩ ⟨2, 1, 0, 1⟩ ⟨5, 2, 0, 0⟩ rfl _ _ _ _ rfl rfl rfl rfl rfl ?_)
    | (go_at_call 28; (with_reducible refine (CD.out _ _ _ (litI_below w known1) (InsAt.lit known1_ok)).mono ?_); rintro e1 w1 ⟨DA, dc, rfl, hd, hb1⟩))
  have hb2 := below_then (litI_below w known1) hb1
  have HD := Lib.hid hd
  have HB2 := Lib.hid hb2
  clear hd hb1 hb2
  go_upto_region 3 with (first
    | ((with_reducible show wpList _ _ _ (Oper.mk (some 20) _ _ _ _ _ :: _) _ _); refine bld_ins5 ⟨6, 0, 0, 0⟩ ⟨10, 0, 0, 0⟩ ⟨6, 1, 1, 0⟩ ⟨7, 1, 2, 0⟩ ⟨0, 0, 0, 0⟩ rfl _ _ _ _ _ rfl rfl rfl rfl rfl rfl ?_)
    | (go_at_call 17; (with_reducible refine (CG.out _ _ _ (below_then HB2.out (litI_below w1 known2)) (InsAt.lit known2_ok)).mono ?_); rintro e2 w2 ⟨GA, gc, rfl, hg, hb3⟩))
  have hb4 := below_then (litI_below w1 known2) hb3
  have HB4 := Lib.hid (below_then HB2.out hb4)
  obtain ⟨dd, B2, c2, rfl, d2, -⟩ := (HD.out.grow hb4).row (k := 2) rfl
  obtain ⟨dd3, B3, c3, e3, d3, -⟩ := (HD.out.grow hb4).row (k := 3) rfl
  obtain rfl : dd = dd3 := Option.some.inj e3
  obtain ⟨ga, ea, -, -, -, -⟩ := hg 1 _ rfl
  subst ea
  have g1 := ins_opA hg (k := 1) rfl rfl
  have g2 := ins_opA hg (k := 2) rfl rfl
  clear hg hb3 hb4 e3
  simp [Addr.add] at d2 d3 g1 g2
  go_wp2_with fail
  go_ret
  exact ⟨rfl, HB4.out⟩
end Go.Proofs.YtpmbgcfnehplaaaDoor
