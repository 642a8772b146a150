/- Several texts in one: S10 S11 S12 S13. -/
import Derived.Test.YtpmbgcfnehplaaaDoorE24
import Derived.Test.YtpmbgcfnehplaaaDoorE20
import Derived.Test.YtpmbgcfnehplaaaDoorPb
import Derived.Test.YtpmbgcfnehplaaaDoorS9
import Derived.Test.YtpmbgcfnehplaaaDoorPd
import Derived.Test.YtpmbgcfnehplaaaDoorPw
import Derived.Test.YtpmbgcfnehplaaaDoorE21
section
/- Clones of slices of buffers and of instructions. -/
set_option linter.unusedVariables false
set_option linter.unusedSimpArgs false
namespace Go.Proofs.YtpmbgcfnehplaaaDoor
open Go.RowKit

def RetRg (w : World) (l : List (Int × Int)) (e : Ending) (w' : World) : Prop := ∃ v, e = .returned v ∧ OwnRg w.heap.size w' v l ∧ Below w.heap.size w w'
def RetIR (w : World) (l : List Ins) (e : Ending) (w' : World) : Prop := ∃ v, e = .returned v ∧ OwnIR w.heap.size w' v l ∧ Below w.heap.size w w'
theorem rings_none {w : World} {l : List (Int × Int)} (h : RingsAt w none l) : l = [] := by
  cases l with
  | nil => rfl
  | cons x l => obtain ⟨ad, e, -⟩ := h 0 x rfl; cases e
theorem ins_none {w : World} {l : List Ins} (h : InsAt w none l) : l = [] := by
  cases l with
  | nil => rfl
  | cons x l => obtain ⟨ad, e, -⟩ := h 0 x rfl; cases e
theorem emp_rg {w : World} : OwnRg w.heap.size (w.alloc (.cells #[] 45)) (.slice (some ⟨w.heap.size, 0, none⟩) 0 0) [] :=
  ⟨⟨rfl, .inr ⟨w.heap.size, 0, #[], rfl, Nat.le_refl _, heap_alloc_new w _, Nat.le_refl _, by simp, by simp, by simp⟩⟩, by simp⟩
theorem OwnRg.below {base : Nat} {w w' : World} {v : Value} {l : List (Int × Int)} (h : OwnRg base w v l) (hb : w.grownBy w' v.ownBlock) (hs : base ≤ w.heap.size) : Below base w w' := own_below (Below.refl _ _) hs h.ge hb
theorem sl_CloneR (A : Option Addr) (n c : Nat) (l : List (Int × Int)) (w : World) (h : RingsAt w A l) (hn : l.length = n) (h9 : n ≤ 1000000) : Calls Tryd.prog 19 #[.slice A n c] w (RetRg w l) := by
  have q22 : ∀ (w : World) (a : Option Addr) (n c n' c' : Nat), (binOp .eql 27 (.slice a n c) (.slice none n' c')).run Tryd.prog w = .ok (.bool a.isNone) w := fun w a n c n' c' => Lib.run_eql_slice_nil w _ _ a n c n' c' Tryd.underlying27
  cases A with
  | none =>
    have hl := rings_none h
    subst hl
    go_enter Tryd.func19, Tryd.ntmps19
    go_wp2_with fail
    go_ret
    exact ⟨_, rfl, OwnRg.nil, Below.refl _ _⟩
  | some ad =>
    have he : OwnRg w.heap.size (w.alloc (.cells #[] 45)) (.slice (some ⟨w.heap.size, 0, none⟩) 0 0) [] := emp_rg
    have hb := (Below.refl w.heap.size w).alloc (Nat.le_refl _) (.cells #[] 45)
    have hi := h.grow hb
    have hs : w.heap.size ≤ (w.alloc (.cells #[] 45)).heap.size := hb.size
    have HB := Lib.hid hb
    have hnx : ([] : List (Int × Int)).length + n ≤ 100000000 := by show 0 + n ≤ _; omega
    have HE := Lib.hid he
    have HI := Lib.hid hi
    have HN := Lib.hid hn
    clear hb h he hi hn
    go_enter Tryd.func19, Tryd.ntmps19
    go_wp2_with (at_builtin; refine app_ring _ rfl _ _ rfl w.heap.size (m := l) rfl rfl HE.out HI.out HN.out hnx hs ?_; intro v1 w1 ho1 hb1)
    go_ret
    exact ⟨_, rfl, by rw [List.nil_append] at ho1; exact ho1, HB.out.trans (HE.out.below hb1 HB.out.size)⟩
theorem sl_CloneIns (A : Option Addr) (n c : Nat) (l : List Ins) (w : World) (h : InsAt w A l) (hn : l.length = n) (h9 : n ≤ 1000000) : Calls Tryd.prog 18 #[.slice A n c] w (RetIR w l) := by
  have q22 : ∀ (w : World) (a : Option Addr) (n c n' c' : Nat), (binOp .eql 28 (.slice a n c) (.slice none n' c')).run Tryd.prog w = .ok (.bool a.isNone) w := fun w a n c n' c' => Lib.run_eql_slice_nil w _ _ a n c n' c' Tryd.underlying28
  cases A with
  | none =>
    have hl := ins_none h
    subst hl
    go_enter Tryd.func18, Tryd.ntmps18
    go_wp2_with fail
    go_ret
    exact ⟨_, rfl, OwnIR.nil, Below.refl _ _⟩
  | some ad =>
    have hb := (Below.refl w.heap.size w).alloc (Nat.le_refl _) (.cells #[] 48)
    have HI := Lib.hid (h.grow hb)
    have hs : w.heap.size ≤ (w.alloc (.cells #[] 48)).heap.size := hb.size
    have HB := Lib.hid hb
    have hnx : ([] : List Ins).length + n ≤ 100000000 := by show 0 + n ≤ _; omega
    have HN := Lib.hid hn
    clear hb h hn
    go_enter Tryd.func18, Tryd.ntmps18
    go_wp2_with (at_builtin; refine app_ins _ rfl _ _ rfl w.heap.size (m := l) rfl rfl emp_ins HI.out HN.out hnx hs ?_; intro v1 w1 ho1 hb1)
    go_ret
    exact ⟨_, rfl, by rw [List.nil_append] at ho1; exact ho1, HB.out.trans hb1⟩
end Go.Proofs.YtpmbgcfnehplaaaDoor
end
section
/- Schedule of package schedule, for valid programs. Printed by gen_s11.py. -/
set_option linter.unusedVariables false
set_option linter.unusedSimpArgs false
namespace Go.Proofs.YtpmbgcfnehplaaaDoor
open Go.RowKit

/-- The order that Schedule takes. -/
def bestC (l : List Ins) : List Ins := if cycF l ≤ cycF (grF l) then l else grF l
def schD (d : PrgD) : PrgD := { d with code := bestC d.code }
def RetPrgE (w : World) (d : PrgD) (E : Int) (e : Ending) (w' : World) : Prop := ∃ u : PrgA, u.d = d ∧ e = .returned (.tuple #[u.v, .int .i64 E]) ∧ PrgAt w' u ∧ Below w.heap.size w w'
theorem valid_fine {d : PrgD} (h : validB d = true) : fineF d.code = true := by
  obtain ⟨-, -, h3, -⟩ := valid_parts h
  unfold fineF
  rw [inB_iff.2 (by omega), Bool.true_and]
  refine List.all_eq_true.2 fun i hi => ?_
  obtain ⟨k, hk, rfl⟩ := List.getElem_of_mem hi
  have hg := (valid_parts h).2.2.2 k hk
  unfold goodAt suitB at hg
  rw [Bool.and_eq_true, Bool.and_eq_true, List.getD_eq_getElem?_getD, List.getElem?_eq_getElem hk] at hg
  exact hg.1.1
theorem valid_rl {d : PrgD} (h : validB d = true) : d.rg.length ≤ 8 ∧ ∀ x ∈ d.rg, ringIn x = true := by
  obtain ⟨-, h2, -, -⟩ := valid_parts h
  unfold ringsB at h2
  rw [Bool.and_eq_true, decide_eq_true_eq] at h2
  refine ⟨h2.1, ?_⟩
  have := ringsK_all h2.2 (Nat.le_refl _)
  rw [List.take_length] at this
  exact this
theorem best_len (l : List Ins) : (bestC l).length = l.length := by
  unfold bestC; split
  · rfl
  · exact grF_len l
/-- What is boxed at the entry: the program and the result. -/
theorem entryPP (w : World) (L M : List Value) : ∀ W, W = ((w.alloc (.cells L.toArray 30)).alloc (.cells M.toArray 30)) → Box W w.heap.size L ∧ Box W (w.heap.size + 1) M ∧ Below w.heap.size w W := fun W hW => by
  subst hW
  have h1 : Box (w.alloc (.cells L.toArray 30)) w.heap.size L := Box.new rfl
  have h2 : Box ((w.alloc (.cells L.toArray 30)).alloc (.cells M.toArray 30)) (w.heap.size + 1) M := Box.new (by simp)
  exact ⟨h1.alloc _, h2, ((Below.refl w.heap.size w).alloc (Nat.le_refl _) _).alloc (by simp) _⟩
theorem st_prgB {ops : Array Oper} {rest : List Oper} {o : Oper} {a : Act} {Q : Exit → Act → World → Prop} {w : World} {L M : List Value} {g : Nat} (hb : Box w g M) (hM : M.length = 10) (hL : L.length = 10) (h1 : L.all (·.oneCell') = true) (hgd : o.guard = none) (x y : Operand) (ho : o.op = .store 30 x y) (hx : a.eval x = .pointer (some ⟨g, 0, none⟩)) (hy : a.eval y = .agg L.toArray)
    (h : ∀ W1, Box W1 g L → w.grownBy W1 (some g) → wpList Tryd.prog ops Q rest (a.put o.dst undef) W1) : wpList Tryd.prog ops Q (o :: rest) a w :=
  wp_st hgd _ x y ho g 0 L hx hy (by rw [hL]; exact size_prg) h1 hb (by rw [hM, hL]; exact Nat.le_refl _) (by rw [List.take_zero, List.nil_append, List.drop_eq_nil_of_le (by rw [hM, hL]; exact Nat.le_refl _), List.append_nil]) h
set_option maxRecDepth 100000 in
set_option maxHeartbeats 8000000 in
theorem sc_Schedule (u : PrgA) (w : World) (hf : FormsAt w) (hp : PrgAt w u) (hv : validB u.d = true) : Calls Tryd.prog 5 #[u.v] w (RetPrgE w (schD u.d) 0) := by
  have hfine := valid_fine hv
  have hpos := (valid_parts hv).2.2.1
  have hrl := (valid_rl hv).1
  have CV : Hid (∀ w1, Below w.heap.size w w1 → Calls Tryd.prog 16 #[u.v] w1 fun e w' => e = .returned (.bool true) ∧ Below w1.heap.size w1 w') := Lib.hid fun w1 hb => pr_Valid u w1 (hf.grow hb) (hp.grow hb) (by omega) (by omega) hv
  obtain ⟨⟨d0, d1, d2, d3, c0, c1, c2, c3, rg, cl⟩, RA, CA, rc, cc⟩ := u
  obtain ⟨hra, hca⟩ := hp
  simp only at hra hca hfine hpos hrl
  obtain ⟨rn, hrn⟩ : ∃ n, rg.length = n := ⟨_, rfl⟩
  obtain ⟨cn, hcn⟩ : ∃ n, cl.length = n := ⟨_, rfl⟩
  have ev : PrgA.v ⟨⟨d0, d1, d2, d3, c0, c1, c2, c3, rg, cl⟩, RA, CA, rc, cc⟩ = .agg #[.int .i64 d0, .int .i64 d1, .int .i64 d2, .int .i64 d3, .int .i64 c0, .int .i64 c1, .int .i64 c2, .int .i64 c3, .slice RA rn rc, .slice CA cn cc] := by
    unfold PrgA.v PrgA.lst
    simp only [hrn, hcn]
  rw [ev] at CV ⊢
  clear ev hv
  rw [hrn] at hrl
  rw [hcn] at hpos
  have HF := Lib.hid hf
  have HRN := Lib.hid hrn
  have HCN := Lib.hid hcn
  have HRA := Lib.hid hra
  have HCA := Lib.hid hca
  have HFC := Lib.hid hfine
  have eD : depE cl = 0 := by unfold depE; rw [if_pos hfine]
  have eG : grD cl = grF cl := by unfold grD; rw [if_pos hfine]
  have htr := Tr.greedy cl
  have hfg : fineF (grF cl) = true := htr.fine hfine
  have CG : Hid (∀ w1 X xc, Below w.heap.size w w1 → InsAt w1 X cl → Calls Tryd.prog 17 #[.slice X cn xc] w1 fun e w' => ∃ v, e = .returned (.tuple #[v, .int .i64 0]) ∧ OwnIR w1.heap.size w' v (grF cl) ∧ Below w1.heap.size w1 w') := Lib.hid fun w1 X xc hb hx =>
    (sc_Greedy X cn xc cl w1 (HF.out.grow hb) hx HCN.out (by omega)).mono fun e w' hr => by
      obtain ⟨v, h1, h2, h3⟩ := hr
      rw [eD] at h1
      rw [eG] at h2
      exact ⟨v, h1, h2, h3⟩
  have CT : Hid (∀ w1 Y yc ys, fineF ys = true → ys.length = cn → Below w.heap.size w w1 → InsAt w1 Y ys → Calls Tryd.prog 7 #[.slice Y cn yc] w1 fun e w' => e = .returned (.tuple #[.int .i64 (cycF ys), .int .i64 (stlF ys), .int .i64 0]) ∧ Below w1.heap.size w1 w') := Lib.hid fun w1 Y yc ys h1 h2 hb hy => by
    have h := sm_Time Y cn yc ys w1 (HF.out.grow hb) hy h2 (by omega)
    unfold RetTm at h
    have e2 : depE ys = 0 := by unfold depE; rw [if_pos h1]
    rw [e2] at h
    exact h
  obtain ⟨gl, hgl⟩ : ∃ x, grF cl = x := ⟨_, rfl⟩
  have hglen : gl.length = cn := by rw [← hgl, grF_len]; exact hcn
  rw [hgl] at CG hfg
  have HGL := Lib.hid hgl
  have HGN := Lib.hid hglen
  have HFG := Lib.hid hfg
  obtain ⟨tA, htA⟩ : ∃ x, cycF cl = x := ⟨_, rfl⟩
  obtain ⟨tB, htB⟩ : ∃ x, cycF gl = x := ⟨_, rfl⟩
  have HTA := Lib.hid htA
  have HTB := Lib.hid htB
  clear hf hra hca hrn hcn hfine eD eG htr hfg hgl hglen htA htB
  go_enter Tryd.func5, Tryd.ntmps5
  go_upto_region 1 with fail
  obtain ⟨bp, br, hb0⟩ := entryPP w [.int .i64 d0, .int .i64 d1, .int .i64 d2, .int .i64 d3, .int .i64 c0, .int .i64 c1, .int .i64 c2, .int .i64 c3, .slice RA rn rc, .slice CA cn cc] zeros10 _ rfl
  change Code.wp _ _ _ _ ((w.alloc (.cells [.int .i64 d0, .int .i64 d1, .int .i64 d2, .int .i64 d3, .int .i64 c0, .int .i64 c1, .int .i64 c2, .int .i64 c3, .slice RA rn rc, .slice CA cn cc].toArray 30)).alloc (.cells zeros10.toArray 30))
  generalize ((w.alloc (.cells [.int .i64 d0, .int .i64 d1, .int .i64 d2, .int .i64 d3, .int .i64 c0, .int .i64 c1, .int .i64 c2, .int .i64 c3, .slice RA rn rc, .slice CA cn cc].toArray 30)).alloc (.cells zeros10.toArray 30)) = W0 at bp br hb0 ⊢
  have HB0 := Lib.hid hb0
  have HBP0 := Lib.hid bp
  have HBR0 := Lib.hid br
  clear hb0 bp br
  go_upto_region 3 with (first
    | ((with_reducible show wpList _ _ _ (Oper.mk (some 12) (.load _ _) _ _ _ _ :: _) _ _); refine ld_prg HBP0.out rfl rfl _ rfl rfl ?_)
    | (go_at_call 16; (with_reducible refine (CV.out _ HB0.out).mono ?_); rintro e1 w1 ⟨rfl, hb1⟩))
  have HB1 := Lib.hid (below_then HB0.out hb1)
  have HBP1 := Lib.hid (HBP0.out.keep hb1)
  have HBR1 := Lib.hid (HBR0.out.keep hb1)
  have x9 := HBP1.out.c10.2.2.2
  have HX1 := Lib.hid (HCA.out.grow HB1.out)
  clear hb1 HBP0 HBR0 HB0 CV
  go_upto_region 6 with (go_at_call 17; (with_reducible refine (CG.out _ _ _ HB1.out HX1.out).mono ?_); rintro e1 w2 ⟨gv, rfl, hg2, hb2⟩)
  obtain ⟨GA, gc, rfl, -, -⟩ := hg2.form
  rw [HGN.out] at hg2 ⊢
  have HB2 := Lib.hid (below_then HB1.out hb2)
  have HBP2 := Lib.hid (HBP1.out.keep hb2)
  have HBR2 := Lib.hid (HBR1.out.keep hb2)
  have HG2 := Lib.hid (hg2.base HB1.out.size)
  have HG2b : Hid (w.heap.size + 2 ≤ w1.heap.size) := by
    have := HBR1.out.1
    exact Lib.hid (by omega)
  have HG2c := Lib.hid (hg2.base HG2b.out)
  have x9 := HBP2.out.c10.2.2.2
  have HX2 := Lib.hid (HCA.out.grow HB2.out)
  clear hb2 hg2 HBP1 HBR1 HB1 CG HX1
  go_upto_region 7 with (go_at_call 7; (with_reducible refine (CT.out _ _ _ _ HFC.out HCN.out HB2.out HX2.out).mono ?_); rintro e1 w3 ⟨rfl, hb3⟩; rw [HTA.out])
  have HB3 := Lib.hid (below_then HB2.out hb3)
  have HBP3 := Lib.hid (HBP2.out.keep hb3)
  have HBR3 := Lib.hid (HBR2.out.keep hb3)
  have HG3 := Lib.hid (HG2c.out.grow hb3)
  have HGI3 : Hid (InsAt w3 GA gl) := by
    obtain ⟨A4, c4, e4, -, h4⟩ := HG3.out.form
    injection e4 with e41 e42 e43
    rw [e41]; exact Lib.hid h4
  clear hb3 HBP2 HBR2 HB2 HX2 HG2 HG2c x9
  go_upto_region 8 with (go_at_call 7; (with_reducible refine (CT.out _ _ _ _ HFG.out HGN.out HB3.out HGI3.out).mono ?_); rintro e1 w4 ⟨rfl, hb4⟩; rw [HTB.out])
  have HB4 := Lib.hid (below_then HB3.out hb4)
  have HBP4 := Lib.hid (HBP3.out.keep hb4)
  have HBR4 := Lib.hid (HBR3.out.keep hb4)
  have HG4 := Lib.hid (HG3.out.grow hb4)
  have x9 := HBP4.out.c10.2.2.2
  have x8 := HBP4.out.c10.2.2.1
  have HX4 := Lib.hid (HCA.out.grow HB4.out)
  have HR4 := Lib.hid (HRA.out.grow HB4.out)
  clear hb4 HBP3 HBR3 HB3 HGI3 HG3 CT
  by_cases hle : tA ≤ tB
  · have HBC : Hid (bestC cl = cl) := by
      unfold bestC; rw [if_pos (by rw [HGL.out, HTA.out, HTB.out]; exact hle)]; exact Lib.hid rfl
    go_upto_region 10 with (go_at_call 18; (with_reducible refine (sl_CloneIns _ _ _ _ _ HX4.out HCN.out (by omega)).mono ?_); rintro e1 w5 ⟨kv, rfl, hk5, hb5⟩)
    obtain ⟨KA, kc, rfl, -, -⟩ := hk5.form
    rw [HCN.out] at hk5 ⊢
    have HB5 := Lib.hid (below_then HB4.out hb5)
    have HBP5 := Lib.hid (HBP4.out.keep hb5)
    have HBR5 := Lib.hid (HBR4.out.keep hb5)
    have HK5 := Lib.hid (hk5.base (Nat.le_trans (show w.heap.size + 2 ≤ w4.heap.size by have := HBR4.out.1; omega) (Nat.le_refl _)))
    have x8 := HBP5.out.c10.2.2.1
    have f8 := HBP5.out.2.2 8
    have f9 := HBP5.out.2.2 9
    have HR5 := Lib.hid (HRA.out.grow HB5.out)
    clear hb5 hk5 HBP4 HBR4 HB4 HG4 x9
    go_upto_region 11 with (go_at_call 19; (with_reducible refine (sl_CloneR _ _ _ _ _ HR5.out HRN.out (by omega)).mono ?_); rintro e1 w6 ⟨rv, rfl, hr6, hb6⟩; obtain ⟨QA, qc, rfl, -, -⟩ := hr6.form; rw [HRN.out] at hr6 ⊢; have x8 : w6.cell? ⟨w.heap.size, 8, none⟩ = some (.slice RA rn rc) := (HBP5.out.keep hb6).2.1 8; have f8 : w6.frozen? ⟨w.heap.size, 8, none⟩ = false := (HBP5.out.keep hb6).2.2 8)
    have HGB : Hid (w.heap.size + 2 ≤ w5.heap.size) := by have := HBR5.out.1; exact Lib.hid (by omega)
    have HB6 := Lib.hid (below_then HB5.out hb6)
    have HBP6 := Lib.hid (HBP5.out.keep hb6)
    have HBR6 := Lib.hid (HBR5.out.keep hb6)
    have HK6 := Lib.hid (HK5.out.grow hb6)
    have HQ6 := Lib.hid (hr6.base HGB.out)
    clear hb6 hr6 HBP5 HBR5 HB5 HK5 HR5 HGB
    have HBP7 := Lib.hid (HBP6.out.set (k := 8) (u := .slice QA rn qc) (by show 8 < 10; omega))
    have HBR7 := Lib.hid (HBR6.out.past (b := w.heap.size) (k := 8) (u := .slice QA rn qc) (by omega))
    have HK7 := Lib.hid (HK6.out.store (g := w.heap.size) (k := 8) (u := .slice QA rn qc) (by omega))
    have HQ7 := Lib.hid (HQ6.out.store (g := w.heap.size) (k := 8) (u := .slice QA rn qc) (by omega))
    have HB7 := Lib.hid (below_set (k := 8) (u := .slice QA rn qc) HB6.out (Nat.le_refl _))
    clear HBP6 HBR6 HB6 HK6 HQ6
    generalize w6.setCell ⟨w.heap.size, 8, none⟩ (.slice QA rn qc) = w7 at HBP7 HBR7 HK7 HQ7 HB7 ⊢
    have x9 := HBP7.out.2.1 9
    have f9 := HBP7.out.2.2 9
    go_upto_region 12 with fail
    have HBP8 := Lib.hid (HBP7.out.set (k := 9) (u := .slice KA cn kc) (by show 9 < 10; omega))
    have HBR8 := Lib.hid (HBR7.out.past (b := w.heap.size) (k := 9) (u := .slice KA cn kc) (by omega))
    have HK8 := Lib.hid (HK7.out.store (g := w.heap.size) (k := 9) (u := .slice KA cn kc) (by omega))
    have HQ8 := Lib.hid (HQ7.out.store (g := w.heap.size) (k := 9) (u := .slice KA cn kc) (by omega))
    have HB8 := Lib.hid (below_set (k := 9) (u := .slice KA cn kc) HB7.out (Nat.le_refl _))
    clear HBP7 HBR7 HB7 HK7 HQ7 x9 f9 f8 x8
    generalize w7.setCell ⟨w.heap.size, 9, none⟩ (.slice KA cn kc) = w8 at HBP8 HBR8 HK8 HQ8 HB8 ⊢
    have HBL8 : Hid (Box w8 w.heap.size (prgL d0 d1 d2 d3 c0 c1 c2 c3 (.slice QA rn qc) (.slice KA cn kc))) := HBP8
    go_wp2_with (first
      | ((with_reducible show wpList _ _ _ (Oper.mk (some 51) (.load _ _) _ _ _ _ :: _) _ _); refine ld_prg HBL8.out rfl rfl _ rfl rfl ?_)
      | ((with_reducible show wpList _ _ _ (Oper.mk none (.store 30 _ _) _ _ _ _ :: _) _ _); refine st_prgB HBR8.out rfl (L := prgL d0 d1 d2 d3 c0 c1 c2 c3 (.slice QA rn qc) (.slice KA cn kc)) rfl rfl rfl _ _ rfl rfl rfl ?_; intro w9 hb9 hg9))
    obtain ⟨dsc, hd1, hd2⟩ := row_prg
    refine bodyPost_ret (resCT rfl _ _ w9 (g := w.heap.size + 1) (v := .agg (prgL d0 d1 d2 d3 c0 c1 c2 c3 (.slice QA rn qc) (.slice KA cn kc)).toArray) rfl (res_box _ hb9 dsc hd1 hd2 size_prg)) rfl ?_
    have hO5 : OwnRg (w.heap.size + 2) w9 (.slice QA rn qc) rg := ⟨own_sets HQ8.out.1 hg9 (by omega), HQ8.out.2⟩
    have hX5 : OwnIR (w.heap.size + 2) w9 (.slice KA cn kc) cl := ⟨own_sets HK8.out.1 hg9 (by omega), HK8.out.2⟩
    obtain ⟨gA2, gc2, e2, -, hRA⟩ := hO5.form
    obtain ⟨A4, c4, e4, -, hCA⟩ := hX5.form
    injection e2 with e21 e22 e23
    injection e4 with e41 e42 e43
    rw [← e21] at hRA
    rw [← e41] at hCA
    refine ⟨⟨⟨d0, d1, d2, d3, c0, c1, c2, c3, rg, cl⟩, QA, KA, qc, kc⟩, ?_, ?_, ⟨hRA, hCA⟩, grown_to HB8.out hg9 (by omega)⟩
    · unfold schD
      simp only
      rw [HBC.out]
    · unfold PrgA.v PrgA.lst
      simp only
      rw [HRN.out, HCN.out]
      rfl
  · have HBC : Hid (bestC cl = gl) := by
      unfold bestC; rw [if_neg (by rw [HGL.out, HTA.out, HTB.out]; exact hle)]; exact HGL
    have hgt : tB < tA := by omega
    have HB5 := HB4
    have HBP5 := HBP4
    have HBR5 := HBR4
    have HK5 := HG4
    have HR5 := HR4
    have f8 := HBP5.out.2.2 8
    have f9 := HBP5.out.2.2 9
    go_upto_region 10 with fail
    obtain ⟨KA, hKA⟩ : ∃ x, x = GA := ⟨_, rfl⟩
    obtain ⟨kc, hkc⟩ : ∃ x, x = gc := ⟨_, rfl⟩
    rw [← hKA, ← hkc] at HK5 ⊢
    clear hKA hkc
    go_upto_region 11 with (go_at_call 19; (with_reducible refine (sl_CloneR _ _ _ _ _ HR5.out HRN.out (by omega)).mono ?_); rintro e1 w6 ⟨rv, rfl, hr6, hb6⟩; obtain ⟨QA, qc, rfl, -, -⟩ := hr6.form; rw [HRN.out] at hr6 ⊢; have x8 : w6.cell? ⟨w.heap.size, 8, none⟩ = some (.slice RA rn rc) := (HBP5.out.keep hb6).2.1 8; have f8 : w6.frozen? ⟨w.heap.size, 8, none⟩ = false := (HBP5.out.keep hb6).2.2 8)
    have HGB : Hid (w.heap.size + 2 ≤ w4.heap.size) := by have := HBR5.out.1; exact Lib.hid (by omega)
    have HB6 := Lib.hid (below_then HB5.out hb6)
    have HBP6 := Lib.hid (HBP5.out.keep hb6)
    have HBR6 := Lib.hid (HBR5.out.keep hb6)
    have HK6 := Lib.hid (HK5.out.grow hb6)
    have HQ6 := Lib.hid (hr6.base HGB.out)
    clear hb6 hr6 HBP5 HBR5 HB5 HK5 HR5 HGB
    have HBP7 := Lib.hid (HBP6.out.set (k := 8) (u := .slice QA rn qc) (by show 8 < 10; omega))
    have HBR7 := Lib.hid (HBR6.out.past (b := w.heap.size) (k := 8) (u := .slice QA rn qc) (by omega))
    have HK7 := Lib.hid (HK6.out.store (g := w.heap.size) (k := 8) (u := .slice QA rn qc) (by omega))
    have HQ7 := Lib.hid (HQ6.out.store (g := w.heap.size) (k := 8) (u := .slice QA rn qc) (by omega))
    have HB7 := Lib.hid (below_set (k := 8) (u := .slice QA rn qc) HB6.out (Nat.le_refl _))
    clear HBP6 HBR6 HB6 HK6 HQ6
    generalize w6.setCell ⟨w.heap.size, 8, none⟩ (.slice QA rn qc) = w7 at HBP7 HBR7 HK7 HQ7 HB7 ⊢
    have x9 := HBP7.out.2.1 9
    have f9 := HBP7.out.2.2 9
    go_upto_region 12 with fail
    have HBP8 := Lib.hid (HBP7.out.set (k := 9) (u := .slice KA cn kc) (by show 9 < 10; omega))
    have HBR8 := Lib.hid (HBR7.out.past (b := w.heap.size) (k := 9) (u := .slice KA cn kc) (by omega))
    have HK8 := Lib.hid (HK7.out.store (g := w.heap.size) (k := 9) (u := .slice KA cn kc) (by omega))
    have HQ8 := Lib.hid (HQ7.out.store (g := w.heap.size) (k := 9) (u := .slice KA cn kc) (by omega))
    have HB8 := Lib.hid (below_set (k := 9) (u := .slice KA cn kc) HB7.out (Nat.le_refl _))
    clear HBP7 HBR7 HB7 HK7 HQ7 x9 f9 f8 x8
    generalize w7.setCell ⟨w.heap.size, 9, none⟩ (.slice KA cn kc) = w8 at HBP8 HBR8 HK8 HQ8 HB8 ⊢
    have HBL8 : Hid (Box w8 w.heap.size (prgL d0 d1 d2 d3 c0 c1 c2 c3 (.slice QA rn qc) (.slice KA cn kc))) := HBP8
    go_wp2_with (first
      | ((with_reducible show wpList _ _ _ (Oper.mk (some 51) (.load _ _) _ _ _ _ :: _) _ _); refine ld_prg HBL8.out rfl rfl _ rfl rfl ?_)
      | ((with_reducible show wpList _ _ _ (Oper.mk none (.store 30 _ _) _ _ _ _ :: _) _ _); refine st_prgB HBR8.out rfl (L := prgL d0 d1 d2 d3 c0 c1 c2 c3 (.slice QA rn qc) (.slice KA cn kc)) rfl rfl rfl _ _ rfl rfl rfl ?_; intro w9 hb9 hg9))
    obtain ⟨dsc, hd1, hd2⟩ := row_prg
    refine bodyPost_ret (resCT rfl _ _ w9 (g := w.heap.size + 1) (v := .agg (prgL d0 d1 d2 d3 c0 c1 c2 c3 (.slice QA rn qc) (.slice KA cn kc)).toArray) rfl (res_box _ hb9 dsc hd1 hd2 size_prg)) rfl ?_
    have hO5 : OwnRg (w.heap.size + 2) w9 (.slice QA rn qc) rg := ⟨own_sets HQ8.out.1 hg9 (by omega), HQ8.out.2⟩
    have hX5 : OwnIR (w.heap.size + 2) w9 (.slice KA cn kc) gl := ⟨own_sets HK8.out.1 hg9 (by omega), HK8.out.2⟩
    obtain ⟨gA2, gc2, e2, -, hRA⟩ := hO5.form
    obtain ⟨A4, c4, e4, -, hCA⟩ := hX5.form
    injection e2 with e21 e22 e23
    injection e4 with e41 e42 e43
    rw [← e21] at hRA
    rw [← e41] at hCA
    refine ⟨⟨⟨d0, d1, d2, d3, c0, c1, c2, c3, rg, gl⟩, QA, KA, qc, kc⟩, ?_, ?_, ⟨hRA, hCA⟩, grown_to HB8.out hg9 (by omega)⟩
    · unfold schD
      simp only
      rw [HBC.out]
    · unfold PrgA.v PrgA.lst
      simp only
      rw [HRN.out, HGN.out]
      rfl
end Go.Proofs.YtpmbgcfnehplaaaDoor
end
section
/- Schedule of the reference, for valid programs. Printed by gen_s12.py. -/
set_option linter.unusedVariables false
set_option linter.unusedSimpArgs false
namespace Go.Proofs.YtpmbgcfnehplaaaDoor
open Go.RowKit

/-- Block q holds cells of type t. -/
def TyAt (w : World) (q : Nat) (t : TypeId) : Prop := ∃ cs r, w.heap[q]? = some (.cells cs t r)
theorem TyAt.grow {w w' : World} {q : Nat} {t : TypeId} (h : TyAt w q t) (hq : q < w.heap.size) (hb : Below w.heap.size w w') : TyAt w' q t := by
  obtain ⟨cs, r, e⟩ := h
  exact ⟨cs, r, (hb.block q hq).trans e⟩
theorem own_apart {base E sz n q : Nat} {t : TypeId} {w w' : World} {v : Value} {xs : List Value} (h : w.ownsRow base E sz v n xs) (hg : w.grownBy w' (some q)) (ht : TyAt w q t) (hne : t ≠ E) : w'.ownsRow base E sz v n xs := by
  refine h.kept hg (.inr fun e => ?_)
  obtain ⟨cs, r, hq⟩ := ht
  rcases h.2 with ⟨rfl, -⟩ | ⟨g, cap, cur, rfl, -, hh, -⟩
  · cases e
  · injection e with e
    have e : g = q := e
    subst e
    rw [hq] at hh
    injection hh with hh
    injection hh with _ hh _
    exact hne hh
theorem own_ne {base E sz n q : Nat} {t : TypeId} {w : World} {v : Value} {xs : List Value} (h : w.ownsRow base E sz v n xs) (ht : TyAt w q t) (hne : t ≠ E) : v.ownBlock ≠ some q := fun e => by
  obtain ⟨cs, r, hq⟩ := ht
  rcases h.2 with ⟨rfl, -⟩ | ⟨g, cap, cur, rfl, -, hh, -⟩
  · cases e
  · injection e with e
    have e : g = q := e
    subst e
    rw [hq] at hh
    injection hh with hh
    injection hh with _ hh _
    exact hne hh
/-- append([]Ring{}, s...) and append([]Instr{}, s...). -/
theorem app_rg0 {ops : Array Oper} {rest : List Oper} {o : Oper} {a : Act} {Q : Exit → Act → World → Prop} (w : World) (hg : o.guard = none) (s x : Operand) (ho : o.op = .call { callee := .builtin .append, args := #[s, x], argTypes := #[27, 27] })
    (base : Nat) {p : Addr} {m : List (Int × Int)} {A : Option Addr} {n c : Nat} (hs : a.eval s = .slice (some p) 0 0) (hx : a.eval x = .slice A n c) (hown : OwnRg base w (.slice (some p) 0 0) []) (hI : RingsAt w A m) (hm : m.length = n) (hn : n ≤ 100000000) (hbase : base ≤ w.heap.size)
    (h : ∀ v' w', OwnRg base w' v' m → Below w.heap.size w w' → wpList Tryd.prog ops Q rest (a.put o.dst v') w') : wpList Tryd.prog ops Q (o :: rest) a w := by
  subst hm
  refine app_row0 w hg s x 27 45 (.agg #[.int .i64 0, .int .i64 0]) 2 16 ho und_ring info_ring rfl (by decide) (by decide) base hs hx hown.1 (ys := (m.flatMap encR).map (Value.int .i64)) ?_ hI.row nums_one hn hbase fun v' w' h1 h2 => h v' w' ⟨h1, hI.ok⟩ h2
  rw [List.length_map, flat_length (enc := encR) (sz := 2) (fun _ => rfl)]
theorem app_ins0 {ops : Array Oper} {rest : List Oper} {o : Oper} {a : Act} {Q : Exit → Act → World → Prop} (w : World) (hg : o.guard = none) (s x : Operand) (ho : o.op = .call { callee := .builtin .append, args := #[s, x], argTypes := #[28, 28] })
    (base : Nat) {p : Addr} {m : List Ins} {A : Option Addr} {n c : Nat} (hs : a.eval s = .slice (some p) 0 0) (hx : a.eval x = .slice A n c) (hown : OwnIR base w (.slice (some p) 0 0) []) (hI : InsAt w A m) (hm : m.length = n) (hn : n ≤ 100000000) (hbase : base ≤ w.heap.size)
    (h : ∀ v' w', OwnIR base w' v' m → Below w.heap.size w w' → wpList Tryd.prog ops Q rest (a.put o.dst v') w') : wpList Tryd.prog ops Q (o :: rest) a w := by
  subst hm
  refine app_row0 w hg s x 28 48 (.agg #[.int .i64 0, .int .i64 0, .int .i64 0, .int .i64 0]) 4 32 ho und_ins info_ins rfl (by decide) (by decide) base hs hx hown.1 (ys := (m.flatMap encI).map (Value.int .i64)) ?_ hI.row nums_one hn hbase fun v' w' h1 h2 => h v' w' ⟨h1, hI.ok⟩ h2
  rw [List.length_map, flat_length (enc := encI) (sz := 4) (fun _ => rfl)]
def rsF (B gp : Nat) (d0 d1 d2 d3 c0 c1 c2 c3 : Int) (RA : Option Addr) (rn rc : Nat) (CA : Option Addr) (cn cc : Nat) (rg : List (Int × Int)) (cl : List Ins) : Nat → Value → World → Prop
  | 0, v, _ => v = .pointer (some ⟨gp, 0, none⟩)
  | 1, v, _ => v = wordV d0 d1 d2 d3
  | 2, v, _ => v = .pointer (some ⟨gp, 4, none⟩)
  | 3, v, _ => v = wordV c0 c1 c2 c3
  | 4, v, w => (∃ p, v = .slice (some p) 0 0) ∧ OwnRg B w v []
  | 5, v, _ => v = .pointer (some ⟨gp, 8, none⟩)
  | 6, v, _ => v = .slice RA rn rc
  | 7, v, w => OwnRg B w v rg
  | 8, v, w => (∃ p, v = .slice (some p) 0 0) ∧ OwnIR B w v []
  | 9, v, _ => v = .pointer (some ⟨gp, 9, none⟩)
  | 10, v, _ => v = .slice CA cn cc
  | 11, v, w => OwnIR B w v cl
  | 12, v, w => ∃ v7 v11, v = .agg (prgL d0 d1 d2 d3 c0 c1 c2 c3 v7 v11).toArray ∧ OwnRg B w v7 rg ∧ OwnIR B w v11 cl
  | 13, v, w => ∃ q, v = .pointer (some ⟨q, 0, none⟩) ∧ Box w q zeros10 ∧ TyAt w q 30 ∧ B ≤ q
  | _, _, _ => False
theorem rsF_keep {B gp : Nat} {d0 d1 d2 d3 c0 c1 c2 c3 : Int} {RA : Option Addr} {rn rc : Nat} {CA : Option Addr} {cn cc : Nat} {rg : List (Int × Int)} {cl : List Ins} {w w' : World} (h : Below w.heap.size w w') : ∀ i v, rsF B gp d0 d1 d2 d3 c0 c1 c2 c3 RA rn rc CA cn cc rg cl i v w → rsF B gp d0 d1 d2 d3 c0 c1 c2 c3 RA rn rc CA cn cc rg cl i v w'
  | 0, _, e | 1, _, e | 2, _, e | 3, _, e | 5, _, e | 6, _, e | 9, _, e | 10, _, e => e
  | 4, _, ⟨e, o⟩ => ⟨e, o.grow h⟩
  | 7, _, o => OwnRg.grow o h
  | 8, _, ⟨e, o⟩ => ⟨e, o.grow h⟩
  | 11, _, o => OwnIR.grow o h
  | 12, _, ⟨v7, v11, e, o1, o2⟩ => ⟨v7, v11, e, o1.grow h, o2.grow h⟩
  | 13, _, ⟨q, e, b, t, g⟩ => ⟨q, e, b.keep h, t.grow b.1 h, g⟩
  | n + 14, _, e => e.elim
set_option maxRecDepth 100000 in
set_option maxHeartbeats 8000000 in
theorem r40_Schedule (u : PrgA) (w : World) (hp : PrgAt w u) (hv : validB u.d = true) : Calls Tryd.prog 6 #[u.v] w (RetPrgE w (schD u.d) 0) := by
  have hfine := valid_fine hv
  have hpos := (valid_parts hv).2.2.1
  have hrl := (valid_rl hv).1
  have CV : Hid (∀ w1, Below w.heap.size w w1 → Calls Tryd.prog 20 #[u.v] w1 fun e w' => e = .returned (.bool true) ∧ Below w1.heap.size w1 w') := Lib.hid fun w1 hb => r38_Valid u w1 (hp.grow hb) (by omega) (by omega) hv
  obtain ⟨⟨d0, d1, d2, d3, c0, c1, c2, c3, rg, cl⟩, RA, CA, rc, cc⟩ := u
  obtain ⟨hra, hca⟩ := hp
  simp only at hra hca hfine hpos hrl
  obtain ⟨rn, hrn⟩ : ∃ n, rg.length = n := ⟨_, rfl⟩
  obtain ⟨cn, hcn⟩ : ∃ n, cl.length = n := ⟨_, rfl⟩
  have ev : PrgA.v ⟨⟨d0, d1, d2, d3, c0, c1, c2, c3, rg, cl⟩, RA, CA, rc, cc⟩ = .agg #[.int .i64 d0, .int .i64 d1, .int .i64 d2, .int .i64 d3, .int .i64 c0, .int .i64 c1, .int .i64 c2, .int .i64 c3, .slice RA rn rc, .slice CA cn cc] := by
    unfold PrgA.v PrgA.lst
    simp only [hrn, hcn]
  rw [ev] at CV ⊢
  clear ev hv
  rw [hrn] at hrl
  rw [hcn] at hpos
  have HRN := Lib.hid hrn
  have HCN := Lib.hid hcn
  have HRA := Lib.hid hra
  have HCA := Lib.hid hca
  have HFC := Lib.hid hfine
  have eD : depE cl = 0 := by unfold depE; rw [if_pos hfine]
  have eG : grD cl = grF cl := by unfold grD; rw [if_pos hfine]
  have htr := Tr.greedy cl
  have hfg : fineF (grF cl) = true := htr.fine hfine
  have CG : Hid (∀ w1 X xc, Below w.heap.size w w1 → InsAt w1 X cl → Calls Tryd.prog 21 #[.slice X cn xc] w1 fun e w' => ∃ v, e = .returned (.tuple #[v, .int .i64 0]) ∧ OwnIR w1.heap.size w' v (grF cl) ∧ Below w1.heap.size w1 w') := Lib.hid fun w1 X xc hb hx =>
    (r40_Greedy X cn xc cl w1 hx HCN.out (by omega)).mono fun e w' hr => by
      obtain ⟨v, h1, h2, h3⟩ := hr
      rw [eD] at h1
      rw [eG] at h2
      exact ⟨v, h1, h2, h3⟩
  have CT : Hid (∀ w1 Y yc ys, fineF ys = true → ys.length = cn → InsAt w1 Y ys → Calls Tryd.prog 22 #[.slice Y cn yc] w1 fun e w' => e = .returned (.tuple #[.int .i64 (cycF ys), .int .i64 (stlF ys), .int .i64 0]) ∧ Below w1.heap.size w1 w') := Lib.hid fun w1 Y yc ys h1 h2 hy => by
    have h := r39_Time Y cn yc ys w1 hy h2 (by omega)
    unfold RetTm at h
    have e2 : depE ys = 0 := by unfold depE; rw [if_pos h1]
    rw [e2] at h
    exact h
  obtain ⟨gl, hgl⟩ : ∃ x, grF cl = x := ⟨_, rfl⟩
  have hglen : gl.length = cn := by rw [← hgl, grF_len]; exact hcn
  rw [hgl] at CG hfg
  have HGL := Lib.hid hgl
  have HGN := Lib.hid hglen
  have HFG := Lib.hid hfg
  obtain ⟨tA, htA⟩ : ∃ x, cycF cl = x := ⟨_, rfl⟩
  obtain ⟨tB, htB⟩ : ∃ x, cycF gl = x := ⟨_, rfl⟩
  have HTA := Lib.hid htA
  have HTB := Lib.hid htB
  clear hra hca hrn hcn hfine eD eG htr hfg hgl hglen htA htB
  go_enter Tryd.func6, Tryd.ntmps6
  go_upto_region 1 with fail
  obtain ⟨bp, br, hb0⟩ := entryPP w [.int .i64 d0, .int .i64 d1, .int .i64 d2, .int .i64 d3, .int .i64 c0, .int .i64 c1, .int .i64 c2, .int .i64 c3, .slice RA rn rc, .slice CA cn cc] zeros10 _ rfl
  change Code.wp _ _ _ _ ((w.alloc (.cells [.int .i64 d0, .int .i64 d1, .int .i64 d2, .int .i64 d3, .int .i64 c0, .int .i64 c1, .int .i64 c2, .int .i64 c3, .slice RA rn rc, .slice CA cn cc].toArray 30)).alloc (.cells zeros10.toArray 30))
  generalize ((w.alloc (.cells [.int .i64 d0, .int .i64 d1, .int .i64 d2, .int .i64 d3, .int .i64 c0, .int .i64 c1, .int .i64 c2, .int .i64 c3, .slice RA rn rc, .slice CA cn cc].toArray 30)).alloc (.cells zeros10.toArray 30)) = W0 at bp br hb0 ⊢
  have HB0 := Lib.hid hb0
  have HBP0 := Lib.hid bp
  have HBR0 := Lib.hid br
  clear hb0 bp br
  go_upto_region 3 with (first
    | ((with_reducible show wpList _ _ _ (Oper.mk (some 13) (.load _ _) _ _ _ _ :: _) _ _); refine ld_prg HBP0.out rfl rfl _ rfl rfl ?_)
    | (go_at_call 20; (with_reducible refine (CV.out _ HB0.out).mono ?_); rintro e1 w1 ⟨rfl, hb1⟩))
  have HB1 := Lib.hid (below_then HB0.out hb1)
  have HBP1 := Lib.hid (HBP0.out.keep hb1)
  have HBR1 := Lib.hid (HBR0.out.keep hb1)
  have x9 := HBP1.out.c10.2.2.2
  have HX1 := Lib.hid (HCA.out.grow HB1.out)
  clear hb1 HBP0 HBR0 HB0 CV
  go_upto_region 4 with (go_at_call 21; (with_reducible refine (CG.out _ _ _ HB1.out HX1.out).mono ?_); rintro e1 w2 ⟨gv, rfl, hg2, hb2⟩; obtain ⟨GA, gc, rfl, -, -⟩ := hg2.form; rw [HGN.out] at hg2 ⊢)
  have HB2 := Lib.hid (below_then HB1.out hb2)
  have HBP2 := Lib.hid (HBP1.out.keep hb2)
  have HBR2 := Lib.hid (HBR1.out.keep hb2)
  have HG2c := Lib.hid (hg2.base (show w.heap.size + 2 ≤ w1.heap.size by have := HBR1.out.1; omega))
  have HGI2 : Hid (InsAt w2 GA gl) := by
    obtain ⟨A4, c4, e4, -, h4⟩ := HG2c.out.form
    injection e4 with e41 e42 e43
    rw [e41]; exact Lib.hid h4
  clear hb2 hg2 HBP1 HBR1 HB1 CG HX1 x9
  go_upto_region 5 with (go_at_call 22; (with_reducible refine (CT.out _ _ _ _ HFG.out HGN.out HGI2.out).mono ?_); rintro e1 w3 ⟨rfl, hb3⟩; rw [HTB.out])
  have HB3 := Lib.hid (below_then HB2.out hb3)
  have HBP3 := Lib.hid (HBP2.out.keep hb3)
  have HBR3 := Lib.hid (HBR2.out.keep hb3)
  have HG3 := Lib.hid (HG2c.out.grow hb3)
  have x9 := HBP3.out.c10.2.2.2
  have HX3 := Lib.hid (HCA.out.grow HB3.out)
  clear hb3 HBP2 HBR2 HB2 HG2c HGI2
  go_upto_region 6 with (go_at_call 22; (with_reducible refine (CT.out _ _ _ _ HFC.out HCN.out HX3.out).mono ?_); rintro e1 w4 ⟨rfl, hb4⟩; rw [HTA.out])
  have HB4 := Lib.hid (below_then HB3.out hb4)
  have HBP4 := Lib.hid (HBP3.out.keep hb4)
  have HBR4 := Lib.hid (HBR3.out.keep hb4)
  have HG4 := Lib.hid (HG3.out.grow hb4)
  have HX4 := Lib.hid (HCA.out.grow HB4.out)
  have HR4 := Lib.hid (HRA.out.grow HB4.out)
  clear hb4 HBP3 HBR3 HB3 HG3 CT HX3 x9
  obtain ⟨B, hB⟩ : ∃ x, w4.heap.size = x := ⟨_, rfl⟩
  have HBE := Lib.hid hB
  have hle9 : cn ≤ 100000000 ∧ rn ≤ 100000000 := by omega
  obtain ⟨hle1, hle2⟩ := hle9
  clear hB
  refine wp_region_grow 14 (fun w' => Below w4.heap.size w4 w') (fun w1 w2 => Below w1.heap.size w1 w2) (rsF B w.heap.size d0 d1 d2 d3 c0 c1 c2 c3 RA rn rc CA cn cc rg cl) (by kernel_rfl) (by kernel_rfl) (Below.refl _ _).drew (fun w1 w2 h1 h2 => ⟨below_then h1 h2, fun i _ v => rsF_keep h2 i v⟩) ?_ ?_
  · refine ⟨?_, ?_, ?_, ?_, ?_, ?_, ?_, ?_, ?_, ?_, ?_, ?_, ?_, ?_, trivial⟩
    · intro vs w5 hC hF
      simp [stL, depsB, Region.binds, Act.put]
      go_wp2_with fail
      exact ⟨rfl, Below.refl _ _⟩
    · intro vs w5 hC hF
      have e0 : vs 0 = _ := hF 0 (by decide)
      simp [stL, depsB, Region.binds, Act.put, e0]
      obtain ⟨⟨x0, x1, x2, x3⟩, ⟨x4, x5, x6, x7⟩, x8, x9⟩ := (HBP4.out.keep hC).c10
      go_wp2_with fail
      exact ⟨rfl, Below.refl _ _⟩
    · intro vs w5 hC hF
      simp [stL, depsB, Region.binds, Act.put]
      go_wp2_with fail
      exact ⟨rfl, Below.refl _ _⟩
    · intro vs w5 hC hF
      have e0 : vs 2 = _ := hF 2 (by decide)
      simp [stL, depsB, Region.binds, Act.put, e0]
      obtain ⟨⟨x0, x1, x2, x3⟩, ⟨x4, x5, x6, x7⟩, x8, x9⟩ := (HBP4.out.keep hC).c10
      go_wp2_with fail
      exact ⟨rfl, Below.refl _ _⟩
    · intro vs w5 hC hF
      simp [stL, depsB, Region.binds, Act.put]
      go_wp2_with fail
      exact ⟨⟨⟨_, rfl⟩, emp_rg.base (by have := hC.size; have := HBE.out; omega)⟩, Below.alloc (Below.refl _ _) (Nat.le_refl _) _⟩
    · intro vs w5 hC hF
      simp [stL, depsB, Region.binds, Act.put]
      go_wp2_with fail
      exact ⟨rfl, Below.refl _ _⟩
    · intro vs w5 hC hF
      have e0 : vs 5 = _ := hF 5 (by decide)
      simp [stL, depsB, Region.binds, Act.put, e0]
      obtain ⟨⟨x0, x1, x2, x3⟩, ⟨x4, x5, x6, x7⟩, x8, x9⟩ := (HBP4.out.keep hC).c10
      go_wp2_with fail
      exact ⟨rfl, Below.refl _ _⟩
    · intro vs w5 hC hF
      obtain ⟨⟨p, e4⟩, o4⟩ := hF 4 (by decide)
      have e6 : vs 6 = _ := hF 6 (by decide)
      rw [e4] at o4
      simp [stL, depsB, Region.binds, Act.put, e4, e6]
      refine app_rg0 w5 rfl _ _ rfl B rfl rfl o4 (HR4.out.grow hC) HRN.out hle2 (by have := hC.size; have := HBE.out; omega) ?_
      intro v' w' h1 h2
      refine wpList_nil ?_
      exact ⟨rfl, v', rfl, h1, h2⟩
    · intro vs w5 hC hF
      simp [stL, depsB, Region.binds, Act.put]
      go_wp2_with fail
      exact ⟨⟨⟨_, rfl⟩, emp_ins.base (by have := hC.size; have := HBE.out; omega)⟩, Below.alloc (Below.refl _ _) (Nat.le_refl _) _⟩
    · intro vs w5 hC hF
      simp [stL, depsB, Region.binds, Act.put]
      go_wp2_with fail
      exact ⟨rfl, Below.refl _ _⟩
    · intro vs w5 hC hF
      have e0 : vs 9 = _ := hF 9 (by decide)
      simp [stL, depsB, Region.binds, Act.put, e0]
      obtain ⟨⟨x0, x1, x2, x3⟩, ⟨x4, x5, x6, x7⟩, x8, x9⟩ := (HBP4.out.keep hC).c10
      go_wp2_with fail
      exact ⟨rfl, Below.refl _ _⟩
    · intro vs w5 hC hF
      obtain ⟨⟨p, e4⟩, o4⟩ := hF 8 (by decide)
      have e6 : vs 10 = _ := hF 10 (by decide)
      rw [e4] at o4
      simp [stL, depsB, Region.binds, Act.put, e4, e6]
      refine app_ins0 w5 rfl _ _ rfl B rfl rfl o4 (HX4.out.grow hC) HCN.out hle1 (by have := hC.size; have := HBE.out; omega) ?_
      intro v' w' h1 h2
      refine wpList_nil ?_
      exact ⟨rfl, v', rfl, h1, h2⟩
    · intro vs w5 hC hF
      have e1 : vs 1 = _ := hF 1 (by decide)
      have e3 : vs 3 = _ := hF 3 (by decide)
      have o7 : OwnRg B w5 (vs 7) rg := hF 7 (by decide)
      have o11 : OwnIR B w5 (vs 11) cl := hF 11 (by decide)
      obtain ⟨QA, qc, e7, -, -⟩ := o7.form
      obtain ⟨KA, kc, e11, -, -⟩ := o11.form
      rw [e7] at o7
      rw [e11] at o11
      simp [stL, depsB, Region.binds, Act.put, e1, e3, e7, e11]
      go_wp2_with fail
      exact ⟨⟨_, _, rfl, o7, o11⟩, Below.refl _ _⟩
    · intro vs w5 hC hF
      simp [stL, depsB, Region.binds, Act.put]
      go_wp2_with fail
      have hbx : Box (w5.alloc (.cells zeros10.toArray 30)) w5.heap.size zeros10 := Box.new rfl
      exact ⟨⟨_, rfl, hbx, ⟨_, _, heap_alloc_new w5 _⟩, by have := hC.size; have := HBE.out; omega⟩, Below.alloc (Below.refl _ _) (Nat.le_refl _) _⟩
  · intro vs w5 hC hF
    obtain ⟨v7, v11, e12, o7, o11⟩ := hF 12 (by decide)
    obtain ⟨q, e13, hbq, hty, hqB⟩ := hF 13 (by decide)
    obtain ⟨QA, qc, rfl, -, -⟩ := o7.form
    obtain ⟨KA, kc, rfl, -, -⟩ := o11.form
    rw [HRN.out] at o7 e12
    rw [HCN.out] at o11 e12
    simp [stL, Act.put, e12, e13]
    have hl1 : (prgL d0 d1 d2 d3 c0 c1 c2 c3 (.slice QA rn qc) (.slice KA cn kc)).all (·.oneCell') = true := rfl
    refine st_prgB hbq rfl (L := prgL d0 d1 d2 d3 c0 c1 c2 c3 (.slice QA rn qc) (.slice KA cn kc)) rfl hl1 rfl _ _ rfl rfl rfl ?_
    intro w6 hb6 hg6
    have HB5 := Lib.hid (below_then HB4.out hC)
    have hgq : w.heap.size + 2 ≤ q := by
      have := HBR4.out.1
      have := HBE.out
      omega
    have HB6 := Lib.hid (grown_to HB5.out hg6 (by omega))
    have HBR6 := Lib.hid (Box.grown (HBR4.out.keep hC) hg6 (by intro e; injection e with e; omega))
    have HQ6 : Hid (OwnRg B w6 (.slice QA rn qc) rg) := Lib.hid ⟨own_apart o7.1 hg6 hty (by decide), o7.2⟩
    have HK6 : Hid (OwnIR B w6 (.slice KA cn kc) cl) := Lib.hid ⟨own_apart o11.1 hg6 hty (by decide), o11.2⟩
    have HG6 : Hid (OwnIR (w.heap.size + 2) w6 (.slice GA cn gc) gl) := Lib.hid ⟨own_apart (HG4.out.grow hC).1 hg6 hty (by decide), HG4.out.2⟩
    have HBQ6 := Lib.hid hb6
    have HGQ := Lib.hid hgq
    have HGB : Hid (w.heap.size + 2 ≤ B) := by have := HBR4.out.1; have := HBE.out; exact Lib.hid (by omega)
    have HNG := Lib.hid (own_ne (HG4.out.grow hC).1 hty (by decide))
    have HNK := Lib.hid (own_ne o11.1 hty (by decide))
    have HNQ := Lib.hid (own_ne o7.1 hty (by decide))
    refine wpList_nil ⟨rfl, ?_⟩
    clear hbq hty hqB o7 o11 hC hF hl1 hb6 hg6 hgq e12 e13 HB5 HBP4 HBR4 HB4 HG4 HX4 HR4
    by_cases hlt : tB < tA
    · have HBC : Hid (bestC cl = gl) := by
        unfold bestC; rw [if_neg (by rw [HGL.out, HTA.out, HTB.out]; omega)]; exact HGL
      have f9 := HBQ6.out.2.2 9
      have y9 : w6.cell? ⟨q, 9, none⟩ = some (.slice KA cn kc) := HBQ6.out.2.1 9
      go_upto_region 9 with fail
      have hgs := grown_set (k := 9) (u := .slice GA cn gc) (grown_refl w6 (some q))
      have HBQ7 : Hid (Box (w6.setCell ⟨q, 9, none⟩ (.slice GA cn gc)) q (prgL d0 d1 d2 d3 c0 c1 c2 c3 (.slice QA rn qc) (.slice GA cn gc))) := Lib.hid (HBQ6.out.set (k := 9) (by show 9 < 10; omega))
      have HBR7 := Lib.hid (HBR6.out.past (b := q) (k := 9) (u := .slice GA cn gc) (by have := HGQ.out; omega))
      have HQ7 : Hid (OwnRg B (w6.setCell ⟨q, 9, none⟩ (.slice GA cn gc)) (.slice QA rn qc) rg) := Lib.hid ⟨HQ6.out.1.kept hgs (.inr HNQ.out), HQ6.out.2⟩
      have HK7 : Hid (OwnIR (w.heap.size + 2) (w6.setCell ⟨q, 9, none⟩ (.slice GA cn gc)) (.slice GA cn gc) gl) := Lib.hid ⟨HG6.out.1.kept hgs (.inr HNG.out), HG6.out.2⟩
      have HB7 := Lib.hid (below_set (k := 9) (u := .slice GA cn gc) HB6.out (show w.heap.size ≤ q by have := HGQ.out; omega))
      clear hgs f9 y9 HBQ6 HBR6 HQ6 HK6 HG6 HB6
      generalize w6.setCell ⟨q, 9, none⟩ (.slice GA cn gc) = w7 at HBQ7 HBR7 HQ7 HK7 HB7 ⊢
      go_wp2_with (first
        | ((with_reducible show wpList _ _ _ (Oper.mk (some 54) (.load _ _) _ _ _ _ :: _) _ _); refine ld_prg HBQ7.out rfl rfl _ rfl rfl ?_)
        | ((with_reducible show wpList _ _ _ (Oper.mk none (.store 30 _ _) _ _ _ _ :: _) _ _); refine st_prgB HBR7.out rfl (L := prgL d0 d1 d2 d3 c0 c1 c2 c3 (.slice QA rn qc) (.slice GA cn gc)) rfl rfl rfl _ _ rfl rfl rfl ?_; intro w9 hb9 hg9))
      obtain ⟨dsc, hd1, hd2⟩ := row_prg
      refine bodyPost_ret (resCT rfl _ _ w9 (g := w.heap.size + 1) (v := .agg (prgL d0 d1 d2 d3 c0 c1 c2 c3 (.slice QA rn qc) (.slice GA cn gc)).toArray) rfl (res_box _ hb9 dsc hd1 hd2 size_prg)) rfl ?_
      have hgb := HGB.out
      have hO5 : OwnRg B w9 (.slice QA rn qc) rg := ⟨own_sets HQ7.out.1 hg9 (by omega), HQ7.out.2⟩
      have hX5 : OwnIR (w.heap.size + 2) w9 (.slice GA cn gc) gl := ⟨own_sets HK7.out.1 hg9 (by omega), HK7.out.2⟩
      obtain ⟨gA2, gc2, e2, -, hRA⟩ := hO5.form
      obtain ⟨A4, c4, e4, -, hCA⟩ := hX5.form
      injection e2 with e21 e22 e23
      injection e4 with e41 e42 e43
      rw [← e21] at hRA
      rw [← e41] at hCA
      refine ⟨⟨⟨d0, d1, d2, d3, c0, c1, c2, c3, rg, gl⟩, QA, GA, qc, gc⟩, ?_, ?_, ⟨hRA, hCA⟩, grown_to HB7.out hg9 (by omega)⟩
      · unfold schD
        simp only
        rw [HBC.out]
      · unfold PrgA.v PrgA.lst
        simp only
        rw [HRN.out, HGN.out]
        rfl
    · have HBC : Hid (bestC cl = cl) := by
        unfold bestC; rw [if_pos (by rw [HGL.out, HTA.out, HTB.out]; omega)]; exact Lib.hid rfl
      have HBQ7 := HBQ6
      have HBR7 := HBR6
      have HQ7 := HQ6
      have HK7 := HK6
      have HB7 := HB6
      go_upto_region 9 with fail
      go_wp2_with (first
        | ((with_reducible show wpList _ _ _ (Oper.mk (some 54) (.load _ _) _ _ _ _ :: _) _ _); refine ld_prg HBQ7.out rfl rfl _ rfl rfl ?_)
        | ((with_reducible show wpList _ _ _ (Oper.mk none (.store 30 _ _) _ _ _ _ :: _) _ _); refine st_prgB HBR7.out rfl (L := prgL d0 d1 d2 d3 c0 c1 c2 c3 (.slice QA rn qc) (.slice KA cn kc)) rfl rfl rfl _ _ rfl rfl rfl ?_; intro w9 hb9 hg9))
      obtain ⟨dsc, hd1, hd2⟩ := row_prg
      refine bodyPost_ret (resCT rfl _ _ w9 (g := w.heap.size + 1) (v := .agg (prgL d0 d1 d2 d3 c0 c1 c2 c3 (.slice QA rn qc) (.slice KA cn kc)).toArray) rfl (res_box _ hb9 dsc hd1 hd2 size_prg)) rfl ?_
      have hgb := HGB.out
      have hO5 : OwnRg B w9 (.slice QA rn qc) rg := ⟨own_sets HQ7.out.1 hg9 (by omega), HQ7.out.2⟩
      have hX5 : OwnIR B w9 (.slice KA cn kc) cl := ⟨own_sets HK7.out.1 hg9 (by omega), HK7.out.2⟩
      obtain ⟨gA2, gc2, e2, -, hRA⟩ := hO5.form
      obtain ⟨A4, c4, e4, -, hCA⟩ := hX5.form
      injection e2 with e21 e22 e23
      injection e4 with e41 e42 e43
      rw [← e21] at hRA
      rw [← e41] at hCA
      refine ⟨⟨⟨d0, d1, d2, d3, c0, c1, c2, c3, rg, cl⟩, QA, KA, qc, kc⟩, ?_, ?_, ⟨hRA, hCA⟩, grown_to HB7.out hg9 (by omega)⟩
      · unfold schD
        simp only
        rw [HBC.out]
      · unfold PrgA.v PrgA.lst
        simp only
        rw [HRN.out, HCN.out]
        rfl
end Go.Proofs.YtpmbgcfnehplaaaDoor
end
section
/- SamePrograms of the reference, at equal programs. -/
set_option linter.unusedVariables false
set_option linter.unusedSimpArgs false
namespace Go.Proofs.YtpmbgcfnehplaaaDoor
open Go.RowKit

set_option maxRecDepth 100000 in
set_option maxHeartbeats 4000000 in
theorem r38_SamePrograms (u v : PrgA) (w : World) (hu : PrgAt w u) (hv : PrgAt w v) (he : v.d = u.d) (hr : u.d.rg.length ≤ 1000) (hc : u.d.code.length ≤ 1000) :
    Calls Tryd.prog 10 #[u.v, v.v] w fun e w' => e = .returned (.bool true) ∧ Below w.heap.size w w' := by
  obtain ⟨⟨d0, d1, d2, d3, c0, c1, c2, c3, rg, cl⟩, RA, CA, rc, cc⟩ := u
  obtain ⟨vd, RB, CB, rb, cb⟩ := v
  simp only at he hr hc
  subst he
  obtain ⟨hra, hca⟩ := hu
  obtain ⟨hrb, hcb⟩ := hv
  simp only at hra hca hrb hcb
  obtain ⟨rn, hrn⟩ : ∃ n, rg.length = n := ⟨_, rfl⟩
  obtain ⟨cn, hcn⟩ : ∃ n, cl.length = n := ⟨_, rfl⟩
  have eu : PrgA.v ⟨⟨d0, d1, d2, d3, c0, c1, c2, c3, rg, cl⟩, RA, CA, rc, cc⟩ = .agg #[.int .i64 d0, .int .i64 d1, .int .i64 d2, .int .i64 d3, .int .i64 c0, .int .i64 c1, .int .i64 c2, .int .i64 c3, .slice RA rn rc, .slice CA cn cc] := by
    unfold PrgA.v PrgA.lst
    simp only [hrn, hcn]
  have ev : PrgA.v ⟨⟨d0, d1, d2, d3, c0, c1, c2, c3, rg, cl⟩, RB, CB, rb, cb⟩ = .agg #[.int .i64 d0, .int .i64 d1, .int .i64 d2, .int .i64 d3, .int .i64 c0, .int .i64 c1, .int .i64 c2, .int .i64 c3, .slice RB rn rb, .slice CB cn cb] := by
    unfold PrgA.v PrgA.lst
    simp only [hrn, hcn]
  rw [eu, ev]
  rw [hrn] at hr
  rw [hcn] at hc
  have HRN := Lib.hid hrn
  have HCN := Lib.hid hcn
  have HRA := Lib.hid hra
  have HCA := Lib.hid hca
  have HRB := Lib.hid hrb
  have HCB := Lib.hid hcb
  clear eu ev hrn hcn hra hca hrb hcb
  go_enter Tryd.func10, Tryd.ntmps10
  go_upto_region 1 with fail
  obtain ⟨bp, br, hb0⟩ := entryPP w [.int .i64 d0, .int .i64 d1, .int .i64 d2, .int .i64 d3, .int .i64 c0, .int .i64 c1, .int .i64 c2, .int .i64 c3, .slice RA rn rc, .slice CA cn cc] [.int .i64 d0, .int .i64 d1, .int .i64 d2, .int .i64 d3, .int .i64 c0, .int .i64 c1, .int .i64 c2, .int .i64 c3, .slice RB rn rb, .slice CB cn cb] _ rfl
  change Code.wp _ _ _ _ ((w.alloc (.cells [.int .i64 d0, .int .i64 d1, .int .i64 d2, .int .i64 d3, .int .i64 c0, .int .i64 c1, .int .i64 c2, .int .i64 c3, .slice RA rn rc, .slice CA cn cc].toArray 30)).alloc (.cells [.int .i64 d0, .int .i64 d1, .int .i64 d2, .int .i64 d3, .int .i64 c0, .int .i64 c1, .int .i64 c2, .int .i64 c3, .slice RB rn rb, .slice CB cn cb].toArray 30))
  generalize ((w.alloc (.cells [.int .i64 d0, .int .i64 d1, .int .i64 d2, .int .i64 d3, .int .i64 c0, .int .i64 c1, .int .i64 c2, .int .i64 c3, .slice RA rn rc, .slice CA cn cc].toArray 30)).alloc (.cells [.int .i64 d0, .int .i64 d1, .int .i64 d2, .int .i64 d3, .int .i64 c0, .int .i64 c1, .int .i64 c2, .int .i64 c3, .slice RB rn rb, .slice CB cn cb].toArray 30)) = W0 at bp br hb0 ⊢
  have HB0 := Lib.hid hb0
  have HBP0 := Lib.hid bp
  have HBR0 := Lib.hid br
  obtain ⟨⟨x0, x1, x2, x3⟩, ⟨x4, x5, x6, x7⟩, x8, x9⟩ := bp.c10
  obtain ⟨⟨y0, y1, y2, y3⟩, ⟨y4, y5, y6, y7⟩, y8, y9⟩ := br.c10
  have HX0 := Lib.hid (HCA.out.grow hb0)
  have HY0 := Lib.hid (HCB.out.grow hb0)
  clear hb0 bp br
  generalize w.heap.size = gp at HBP0 HBR0 x0 x1 x2 x3 x4 x5 x6 x7 x8 x9 y0 y1 y2 y3 y4 y5 y6 y7 y8 y9 ⊢
  go_upto_region 3 with (go_at_call 29; (with_reducible refine (r38_SameCode _ _ _ _ _ _ _ HX0.out HY0.out HCN.out (by omega)).mono ?_); rintro e1 w1 ⟨rfl, hb1⟩)
  have HB1 := Lib.hid (below_then HB0.out hb1)
  have HBP1 := Lib.hid (HBP0.out.keep hb1)
  have HBR1 := Lib.hid (HBR0.out.keep hb1)
  clear hb1 HB0 HBP0 HBR0 HX0 HY0 x0 x1 x2 x3 x4 x5 x6 x7 x8 x9 y0 y1 y2 y3 y4 y5 y6 y7 y8 y9
  obtain ⟨L, hL⟩ : ∃ L : List Value, [.int .i64 d0, .int .i64 d1, .int .i64 d2, .int .i64 d3, .int .i64 c0, .int .i64 c1, .int .i64 c2, .int .i64 c3, .slice RA rn rc, .slice CA cn cc] = L := ⟨_, rfl⟩
  obtain ⟨M, hM⟩ : ∃ L : List Value, [.int .i64 d0, .int .i64 d1, .int .i64 d2, .int .i64 d3, .int .i64 c0, .int .i64 c1, .int .i64 c2, .int .i64 c3, .slice RB rn rb, .slice CB cn cb] = L := ⟨_, rfl⟩
  rw [hL] at HBP1
  rw [hM] at HBR1
  have HL8 : Hid (L[8]? = some (.slice RA rn rc)) := by rw [← hL]; exact Lib.hid rfl
  have HM8 : Hid (M[8]? = some (.slice RB rn rb)) := by rw [← hM]; exact Lib.hid rfl
  clear hL hM
  go_wp2_with fail
  go_loopw [5] (fun x wr => ∃ k : Nat, k ≤ rn ∧ x = .int .i64 k ∧ Hid (Below w.heap.size w wr) ∧ Hid (Box wr gp L) ∧ Hid (Box wr (gp + 1) M)) (fun x _ => rn - (intOf x).toNat)
  case atStart => exact ⟨0, Nat.zero_le _, rfl, HB1, HBP1, HBR1⟩
  case round =>
    obtain ⟨k, hk, rfl, HB, HBP, HBR⟩ := hrel
    have x8 : wr.cell? ⟨gp, 8, none⟩ = some (.slice RA rn rc) := (HBP.out.2.1 8).trans HL8.out
    by_cases hlt : k < rn
    · obtain ⟨⟨xb, xl⟩, hx⟩ : ∃ x, rg[k]? = some x := ⟨_, List.getElem?_eq_getElem (by rw [HRN.out]; exact hlt)⟩
      obtain ⟨ad, hA, p1, p2, -, -⟩ := ring_ext (HRA.out.grow HB.out) hx
      obtain ⟨bd, hB, q1, q2, -, -⟩ := ring_ext (HRB.out.grow HB.out) hx
      subst hA hB
      simp only at p1 p2 q1 q2
      have e8 := HBP.out.ext HL8.out
      have f8 := HBR.out.ext HM8.out
      have i1 : (0 : Int) ≤ (k : Int) := by omega
      have i2 : (k : Int) < (rn : Int) := by omega
      have wk : IntKind.i64.wrap ((k : Int) + 1) = ((k + 1 : Nat) : Int) := (IntWalk.i64_in _ (by omega)).trans (by omega)
      clear hx
      go_upto_region 6 with fail
      refine wp_region_ext (by kernel_rfl) (by kernel_rfl) ?_
      repeat (go_big_quiet_step (fail))
      refine wpQuiet_nil ?_
      rintro w3 ⟨⟨_, hb3⟩, rfl⟩
      go_wp2_with fail
      go_roundw
      case rel => exact ⟨k + 1, by omega, by go_num, Lib.hid (below_then HB.out hb3), Lib.hid (HBP.out.keep hb3), Lib.hid (HBR.out.keep hb3)⟩
      case measure => simp [intOf]; omega
    · obtain rfl : k = rn := by omega
      go_wp2_with fail
      go_ret
      exact ⟨rfl, HB.out⟩
end Go.Proofs.YtpmbgcfnehplaaaDoor
end
