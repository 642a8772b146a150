/- Package codegen: node. -/
import Derived.Test.YtdiflpbioohddaaDoortU2toCr
import Derived.Test.YtdiflpbioohddaaDoortJ2
import Derived.Deep.DeepCutAuto
import Derived.Deep.CutBlock
set_option linter.unusedVariables false
set_option linter.unusedSimpArgs false
namespace Go.Proofs.YtdiflpbioohddaaDoor
open Go.RowKit
def ndF1 (B q : Nat) (c : Int) : Nat → Value → World → Prop
 | 0, v, _ => v = .pointer (some ⟨B, 0, none⟩)
 | 1, v, _ => v = .pointer (some ⟨B, 0, none⟩)
 | 2, v, _ => v = .pointer (some ⟨B, 0, none⟩)
 | 3, v, _ => v = .pointer (some ⟨q, 1, none⟩)
 | 4, v, _ => v = .int .i64 c
 | _, _, _ => True
def ndF2 (B q : Nat) (f c : Int) : Nat → Value → World → Prop
 | 0, v, _ => v = .pointer (some ⟨B, 0, none⟩)
 | 1, v, _ => v = .pointer (some ⟨B, 0, none⟩)
 | 2, v, _ => v = .pointer (some ⟨B, 0, none⟩)
 | 3, v, _ => v = .pointer (some ⟨q, 0, none⟩)
 | 4, v, _ => v = .int .i64 f
 | 5, v, _ => v = .int .i64 (f - 1)
 | 6, v, _ => v = .pointer (some ⟨q, 1, none⟩)
 | 7, v, _ => v = .int .i64 c
 | _, _, _ => True
def ndF3 (B : Nat) (r st k m : Int) : Nat → Value → World → Prop
 | 0, v, _ => v = .pointer (some ⟨B, 0, none⟩)
 | 1, v, _ => v = .pointer (some ⟨B, 0, none⟩)
 | 2, v, _ => v = .pointer (some ⟨B, 0, none⟩)
 | 3, v, _ => v = .int .i64 r
 | 4, v, _ => v = .pointer (some ⟨B, 0, none⟩)
 | 5, v, _ => v = .pointer (some ⟨B, 0, none⟩)
 | 6, v, _ => v = .pointer (some ⟨B, 1, none⟩)
 | 7, v, _ => v = .pointer (some ⟨B, 9, none⟩)
 | 8, v, _ => v = .int .i64 st
 | 9, v, _ => v = .int .i64 k
 | 10, v, _ => v = .int .i64 m
 | _, _, _ => True
set_option maxRecDepth 100000 in
set_option maxHeartbeats 4000000 in
theorem cg_node (n : NetD) (NA XA : Option Addr) (nc xc : Nat) {w0 w : World} {B : Nat} {last : Int} {X : List (Nat × Obj)} {v : Value} {l : List Ins} {k : Nat} {ts : List (Int × Int)} (hN : NodesAt w0 NA n.ns) (hts : n.ns[k]? = some ts) (hB0 : Below w0.heap.size w0 w)
  (h : GenAt w0.heap.size B 86 (genR (n.lst NA nc XA xc) last) X w v l) (ht64 : ts.length ≤ 64) (hl : l.length ≤ 500000) (hst : 0 ≤ n.st ∧ n.st ≤ 64) (hk64 : k ≤ 64) (hla : 0 ≤ last ∧ last ≤ 6) (htm : ∀ t ∈ ts, 0 ≤ t.1 ∧ t.1 ≤ 1000) :
  Calls Tryd.prog 36 #[.pointer (some ⟨B, 0, none⟩), .int .i64 k] w (RetGen w0.heap.size B 86 (genR (n.lst NA nc XA xc) (nextR last)) X w (l ++ nodeI (nextR last) (n.st + k) ts)) := by
 have HG := Lib.hid h
 have HN := Lib.hid hN
 have HTS := Lib.hid hts
 have HB0 := Lib.hid hB0
 have HTM := Lib.hid htm
 have HSZ := Lib.hid h.size
 have hkn : k < n.ns.length := (List.getElem?_eq_some_iff.1 hts).1
 obtain ⟨st, hst'⟩ : ∃ st, n.st = st := ⟨_, rfl⟩
 have HST := Lib.hid hst'
 rw [hst'] at hst
 clear h hN hts hB0 htm hst'
 go_enter Tryd.func36, Tryd.ntmps36
 go_upto_region 1 with (go_at_call 35; (with_reducible refine (cg_emit 1 0 0 0 HG.out (by unfold Ins.ok I64; decide) (by omega)).mono ?_); rintro e w1 ⟨rfl, hb1, v1, hg1⟩)
 have HB1 := Lib.hid (HB0.out.trans hb1)
 have HW1 := Lib.hid hb1
 obtain ⟨ad, A, c, rfl, hab, hac, hT⟩ := HN.out k ts HTS.out
 have x10 : w1.cell? ⟨B, 10, none⟩ = some (.slice (some ad) n.ns.length nc) := by rw [cell_heap hg1.heap]; rfl
 have hac1 : w1.cell? (ad.add k) = some (.slice A ts.length c) := (HB1.out.cell (by rw [block_add]; exact hab)).trans hac
 have hab1 : ad.block < w1.heap.size := Nat.lt_of_lt_of_le hab HB1.out.size
 have HG1 := Lib.hid hg1
 have HT := Lib.hid hT
 have kn1 : (0 : Int) ≤ (k : Int) := by omega
 have kn2 : (k : Int) < (n.ns.length : Int) := by omega
 clear hg1 hb1 HG hab hac hT
 go_wp2_with fail
 clear x10 hac1 hab1 kn1 kn2
 go_loopw [21] (fun i wr => ∃ (j : Nat) (vj : Value), j ≤ ts.length ∧ i = .int .i64 j ∧ Hid (GenAt w0.heap.size B 86 (genR (n.lst (some ad) nc XA xc) last) X wr vj (l ++ ⟨1, 0, 0, 0⟩ :: (ts.take j).map termI)) ∧ Hid (Below w0.heap.size w0 wr) ∧ Hid (Below w0.heap.size w wr)) (fun i _ => ts.length - (intOf i).toNat)
 case atStart => exact ⟨0, v1, Nat.zero_le _, rfl, HG1, HB1, HW1⟩
 case round =>
  obtain ⟨j, vj, hj, rfl, HGJ, HBJ, HWJ⟩ := hrel
  by_cases hlt : j < ts.length
  ·obtain ⟨tm, htm'⟩ : ∃ tm, ts[j]? = some tm := ⟨_, List.getElem?_eq_getElem hlt⟩
   obtain ⟨a2, rfl, hb2, ct0, ct1, i1, i2⟩ := (HT.out.grow HBJ.out) j tm htm'
   have hf := HTM.out tm (List.mem_of_getElem? htm')
   have HTK : Hid ((ts.take (j + 1)).map termI = (ts.take j).map termI ++ [termI tm]) := Lib.hid (by rw [List.take_add_one, htm']; simp)
   obtain ⟨f, cf⟩ := tm
   simp only at ct0 ct1 i1 i2 hf
   obtain ⟨W, hW⟩ : ∃ x : World, x = wr.alloc (.cells #[.int .i64 f, .int .i64 cf] 80) := ⟨_, rfl⟩
   obtain ⟨q, hq⟩ : ∃ q, q = wr.heap.size := ⟨_, rfl⟩
   have hbx : Box W q [.int .i64 f, .int .i64 cf] := by subst hW hq; exact Box.new rfl
   have hbw : Below wr.heap.size wr W := by subst hW; exact (Below.refl _ _).alloc (Nat.le_refl _) _
   have z0 : W.cell? ⟨q, 0, none⟩ = some (.int .i64 f) := hbx.2.1 0
   have z1 : W.cell? ⟨q, 1, none⟩ = some (.int .i64 cf) := hbx.2.1 1
   have HGW := Lib.hid (HGJ.out.keepB (hbw.drew))
   have HBW := Lib.hid (HBJ.out.trans ((hbw.drew).mono HGJ.out.size))
   have HWW := Lib.hid (HWJ.out.trans ((hbw.drew).mono HGJ.out.size))
   have HCI := Lib.hid i2
   have HLJ : Hid ((l ++ (⟨1, 0, 0, 0⟩ : Ins) :: (ts.take j).map termI).length < 1000000) := Lib.hid (by simp; omega)
   have xj0 : (0 : Int) ≤ (j : Int) := by omega
   have xj1 : (j : Int) < (ts.length : Int) := by omega
   clear hbx hbw htm' i1 i2 HGJ HBJ HWJ
   by_cases h0 : f = 0
   ·subst h0
    have HOK : Hid (⟨2, 0, 0, cf⟩ : Ins).ok := Lib.hid (ok_imm (by omega) (by omega) (by omega) HCI.out)
    go_upto_region 5 with fail
    rw [← hW, ← hq]
    clear hW hq ct0 ct1 hb2 xj0 xj1
    obtain ⟨Wd, hWd⟩ : ∃ x : World, x = W.drew := ⟨_, rfl⟩
    rw [← hWd] at HGW HBW HWW
    have z0d : Wd.cell? ⟨q, 0, none⟩ = some (.int .i64 0) := by rw [hWd]; exact z0
    have z1d : Wd.cell? ⟨q, 1, none⟩ = some (.int .i64 cf) := by rw [hWd]; exact z1
    refine wp_region_grow2 (fun i => Nat.blt i 5) (fun _ => false) (fun x => x = Wd) (fun x y => y = x) (ndF1 B q cf) (by kernel_rfl) (by kernel_rfl) hWd.symm (fun x y h1 h2 => by subst h2; exact ⟨h1, fun _ _ _ h => h⟩) (fun _ _ => rfl) ?_ (fun _ _ _ _ h => by cases h) ?_
    ·refine ⟨?_, ?_, ?_, ?_, ?_, trivial⟩
     all_goals
      intro vs w9 hp hF
      clear hWd
      subst hp
      simp [depsB, Region.binds, ndF1] at hF
      simp [stL, depsB, Region.binds, Act.put, hF]
      go_wp2_with fail
      first | exact rfl | exact ⟨rfl, rfl⟩
    intro vs w9 hp hF
    clear hWd
    subst hp
    have e2 : vs 2 = .pointer (some ⟨B, 0, none⟩) := hF 2 (by decide) (by decide)
    have e4 : vs 4 = .int .i64 cf := hF 4 (by decide) (by decide)
    show wpList Tryd.prog _ _ [_] _ _
    simp [stL, Act.put, e2, e4]
    go_wp2_with (go_at_call 35; (with_reducible refine (cg_emit 2 0 0 cf HGW.out HOK.out HLJ.out).mono ?_); rintro e w5 ⟨rfl, hb5, v5, hg5⟩)
    go_roundw
    case rel => exact ⟨j + 1, v5, by omega, by go_num, Lib.hid (by rw [HTK.out, termI_zero]; simpa using hg5), Lib.hid (HBW.out.trans hb5), Lib.hid (HWW.out.trans hb5)⟩
    case measure => simp [intOf]; omega
   ·have hfb : (f == 0) = false := by simpa using h0
    have wf : IntKind.i64.wrap (f - 1) = f - 1 := IntWalk.i64_in _ (by omega)
    have HOK : Hid (⟨3, f - 1, 0, cf⟩ : Ins).ok := Lib.hid (ok_imm (by omega) (by omega) (by omega) HCI.out)
    go_upto_region 6 with fail
    rw [← hW, ← hq]
    clear hW hq ct0 ct1 hb2 xj0 xj1 hfb
    obtain ⟨Wd, hWd⟩ : ∃ x : World, x = W.drew := ⟨_, rfl⟩
    rw [← hWd] at HGW HBW HWW
    have z0d : Wd.cell? ⟨q, 0, none⟩ = some (.int .i64 f) := by rw [hWd]; exact z0
    have z1d : Wd.cell? ⟨q, 1, none⟩ = some (.int .i64 cf) := by rw [hWd]; exact z1
    refine wp_region_grow2 (fun i => Nat.blt i 8) (fun _ => false) (fun x => x = Wd) (fun x y => y = x) (ndF2 B q f cf) (by kernel_rfl) (by kernel_rfl) hWd.symm (fun x y h1 h2 => by subst h2; exact ⟨h1, fun _ _ _ h => h⟩) (fun _ _ => rfl) ?_ (fun _ _ _ _ h => by cases h) ?_
    ·refine ⟨?_, ?_, ?_, ?_, ?_, ?_, ?_, ?_, trivial⟩
     all_goals
      intro vs w9 hp hF
      clear hWd
      subst hp
      simp [depsB, Region.binds, ndF2] at hF
      simp [stL, depsB, Region.binds, Act.put, hF]
      go_wp2_with fail
      first | exact rfl | exact ⟨rfl, rfl⟩
    intro vs w9 hp hF
    clear hWd
    subst hp
    have e2 : vs 2 = .pointer (some ⟨B, 0, none⟩) := hF 2 (by decide) (by decide)
    have e5 : vs 5 = .int .i64 (f - 1) := hF 5 (by decide) (by decide)
    have e7 : vs 7 = .int .i64 cf := hF 7 (by decide) (by decide)
    show wpList Tryd.prog _ _ [_] _ _
    simp [stL, Act.put, e2, e5, e7]
    go_wp2_with (go_at_call 35; (with_reducible refine (cg_emit 3 (f - 1) 0 cf HGW.out HOK.out HLJ.out).mono ?_); rintro e w5 ⟨rfl, hb5, v5, hg5⟩)
    go_roundw
    case rel => exact ⟨j + 1, v5, by omega, by go_num, Lib.hid (by rw [HTK.out, termI_pos h0]; simpa using hg5), Lib.hid (HBW.out.trans hb5), Lib.hid (HWW.out.trans hb5)⟩
    case measure => simp [intOf]; omega
  ·obtain rfl : j = ts.length := by omega
   rw [List.take_length] at HGJ
   have hr := nextR_in hla.1
   generalize hnr : nextR last = r at hr ⊢
   have HNR := Lib.hid hnr
   clear hnr
   have HOK5 : Hid (⟨5, r, 0, 0⟩ : Ins).ok := Lib.hid (ok_small (by omega) (by omega) (by omega) (by omega))
   have HOK7 : Hid (⟨7, r, st + k, 0⟩ : Ins).ok := Lib.hid (ok_small (by omega) (by omega) (by omega) (by omega))
   have HL5 : Hid ((l ++ (⟨1, 0, 0, 0⟩ : Ins) :: ts.map termI).length < 1000000) := Lib.hid (by simp; omega)
   have HL7 : Hid ((l ++ (⟨1, 0, 0, 0⟩ : Ins) :: ts.map termI ++ [(⟨5, r, 0, 0⟩ : Ins)]).length < 1000000) := Lib.hid (by simp; omega)
   have wk : IntKind.i64.wrap (st + (k : Int)) = st + k := IntWalk.i64_in _ (by omega)
   go_upto_region 10 with (first
    | (go_at_call 68; (with_reducible refine (cg_fresh HGJ.out rfl hla).mono ?_); rw [HNR.out]; rintro e w4 ⟨rfl, hb4, v4, hg4⟩; have HG4 := Lib.hid hg4; have HB4 := Lib.hid hb4; clear hg4 hb4)
    | (go_at_call 35; (with_reducible refine (cg_emit 5 r 0 0 HG4.out HOK5.out HL5.out).mono ?_); rintro e w5 ⟨rfl, hb5, v5, hg5⟩; have HG5 := Lib.hid hg5; have HB5 := Lib.hid hb5; clear hg5 hb5))
   have HWZ := Lib.hid (HWJ.out.trans (HB4.out.trans HB5.out))
   clear HBJ HWJ HGJ HB4 HB5 HG4
   obtain ⟨Wd, hWd⟩ : ∃ x : World, x = w5.drew := ⟨_, rfl⟩
   have HGD := Lib.hid (HG5.out.keepB ((Below.refl _ _).drew))
   have HWD := Lib.hid (HWZ.out.trans ((Below.refl w0.heap.size w5).drew))
   rw [← hWd] at HGD HWD
   have z9 : Wd.cell? ⟨B, 9, none⟩ = some (.int .i64 st) := by rw [cell_heap HGD.out.heap, ← HST.out]; rfl
   refine wp_region_grow2 (fun i => Nat.blt i 11) (fun _ => false) (fun x => x = Wd) (fun x y => y = x) (ndF3 B r st k (st + k)) (by kernel_rfl) (by kernel_rfl) hWd.symm (fun x y h1 h2 => by subst h2; exact ⟨h1, fun _ _ _ h => h⟩) (fun _ _ => rfl) ?_ (fun _ _ _ _ h => by cases h) ?_
   ·refine ⟨?_, ?_, ?_, ?_, ?_, ?_, ?_, ?_, ?_, ?_, ?_, trivial⟩
    all_goals
     intro vs w9 hp hF
     clear hWd
     subst hp
     simp [depsB, Region.binds, ndF3] at hF
     simp [stL, depsB, Region.binds, Act.put, hF]
     go_wp2_with fail
     first | exact rfl | exact ⟨rfl, rfl⟩
   intro vs w9 hp hF
   clear hWd
   subst hp
   have e2 : vs 2 = .pointer (some ⟨B, 0, none⟩) := hF 2 (by decide) (by decide)
   have e3 : vs 3 = .int .i64 r := hF 3 (by decide) (by decide)
   have e10 : vs 10 = .int .i64 (st + k) := hF 10 (by decide) (by decide)
   show wpList Tryd.prog _ _ [_] _ _
   simp [stL, Act.put, e2, e3, e10]
   go_wp2_with (go_at_call 35; (with_reducible refine (cg_emit 7 r (st + k) 0 HGD.out HOK7.out HL7.out).mono ?_); rintro e w7 ⟨rfl, hb7, v7, hg7⟩)
   go_end0
   exact ⟨rfl, HWD.out.trans hb7, v7, by rw [HST.out, HNR.out]; unfold nodeI; simpa using hg7⟩
end Go.Proofs.YtdiflpbioohddaaDoor
