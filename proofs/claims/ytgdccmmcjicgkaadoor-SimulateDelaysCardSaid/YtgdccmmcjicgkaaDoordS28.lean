/- Start of package simulate and of its reference; place and Valid of the reference. Printed by gen_s28.py. -/
import Derived.Test.YtgdccmmcjicgkaaDoordOitoS26
import Derived.Test.YtgdccmmcjicgkaaDoordS22toS14
import Derived.Test.YtgdccmmcjicgkaaDoordAtoU
import Derived.Deep.DeepCutAuto
import Derived.Handy
import Derived.Test.YtgdccmmcjicgkaaDoordU3toJ2
import Derived.Test.YtgdccmmcjicgkaaDoordE1toI0
import Derived.Test.YtgdccmmcjicgkaaDoordE5toC
set_option linter.unusedVariables false
set_option linter.unusedSimpArgs false
namespace Go.Proofs.YtgdccmmcjicgkaaDoor
open Go.RowKit
def RetMacE (w : World) (m : Mac) (er : Int) (e : Ending) (w' : World) : Prop := ∃ x : MacA, x.m = m ∧ e = .returned (.tuple #[x.v, .int .i64 er]) ∧ MacAt w' x ∧ Below w.heap.size w w'
theorem RetMacE.mk {w w' : World} {m : Mac} {A B H : Option Addr} {an bn hn ac bc hc : Nat} {er : Int} {e : Ending} (he : e = .returned (.tuple #[.agg #[.slice A an ac, .slice B bn bc, .slice H hn hc, .int .i64 m.cyc, .int .i64 m.stl], .int .i64 er])) (h1 : m.regs.length = an) (h2 : m.mem.length = bn) (h3 : m.heads.length = hn) (i1 : Ints w' A m.regs) (i2 : Ints w' B m.mem) (i3 : Ints w' H m.heads) (hb : Below w.heap.size w w') : RetMacE w m er e w' := by
  subst h1 h2 h3
  exact ⟨⟨m, A, B, H, ac, bc, hc⟩, rfl, he, ⟨i1, i2, i3⟩, hb⟩
def macZ : Mac := ⟨[], [], [], 0, 0⟩
def startM (d : PrgD) : Mac := if validB d = true then mac0 d else macZ
def startE (d : PrgD) : Int := if validB d = true then 0 else 21
theorem built_mac0 : Tryd.prog.built 46 [] = some zeros5.toArray := by kernel_rfl
theorem built_mac3 (A B H : Option Addr) (an ac bn bc hn hc : Nat) : Tryd.prog.built 46 [(0, .slice A an ac), (1, .slice B bn bc), (2, .slice H hn hc)] = some #[.slice A an ac, .slice B bn bc, .slice H hn hc, .int .i64 0, .int .i64 0] := by kernel_rfl
def startF (B gp rn : Nat) (V : Value) : Nat → Value → World → Prop
  | 0, v, w => Own B w v (List.replicate 8 0)
  | 1, v, w => Own B w v (List.replicate 128 0)
  | 2, v, _ => v = .pointer (some ⟨gp, 8, none⟩)
  | 3, v, _ => v = V
  | 4, v, _ => v = .int .i64 (rn : Int)
  | 5, v, w => Own B w v (List.replicate rn 0)
  | 6, v, w => ∃ a b c, v = .agg #[a, b, c, .int .i64 0, .int .i64 0] ∧ Own B w a (List.replicate 8 0) ∧ Own B w b (List.replicate 128 0) ∧ Own B w c (List.replicate rn 0)
  | _, _, _ => False
theorem startF_keep {B gp rn : Nat} {V : Value} {w w' : World} (h : Below w.heap.size w w') : ∀ i v, startF B gp rn V i v w → startF B gp rn V i v w'
  | 0, _, e | 1, _, e | 5, _, e => Own.grow e h
  | 2, _, e | 3, _, e | 4, _, e => e
  | 6, _, ⟨a, b, c, e, h1, h2, h3⟩ => ⟨a, b, c, e, h1.grow h, h2.grow h, h3.grow h⟩
  | n + 7, _, e => e.elim
set_option maxRecDepth 100000 in
set_option maxHeartbeats 4000000 in
theorem sm_Start (u : PrgA) (w : World) (hf : FormsAt w) (hp : PrgAt w u) (hr9 : u.d.rg.length ≤ 9223372036854775807) (hc9 : u.d.code.length ≤ 9223372036854775807) : Calls Tryd.prog 32 #[u.v] w (RetMacE w (startM u.d) (startE u.d)) := by
  obtain ⟨V, hV⟩ : ∃ b, validB u.d = b := ⟨_, rfl⟩
  have CV : Hid (∀ w1, Below w.heap.size w w1 → Calls Tryd.prog 43 #[.agg u.lst.toArray] w1 fun e w' => e = .returned (.bool V) ∧ Below w1.heap.size w1 w') := Lib.hid fun w1 hb => by have h := pr_Valid u w1 (hf.grow hb) (hp.grow hb) hr9 hc9 hV; unfold PrgA.v at h; exact h
  have ev : u.v = .agg u.lst.toArray := rfl
  rw [ev]
  obtain ⟨rn, hrn⟩ : ∃ k, u.d.rg.length = k := ⟨_, rfl⟩
  have hrl : V = true → rn ≤ 8 := fun e => by rw [← hrn]; exact (valid_rl (hV.trans e)).1
  have HRN := Lib.hid hrn
  have HV := Lib.hid hV
  clear ev hp hrn hV hr9 hc9
  go_enter Tryd.func32, Tryd.ntmps32
  go_upto_region 1 with fail
  obtain ⟨bp, br, hb0⟩ := entryPM w u.lst zeros5 _ rfl
  change Code.wp _ _ _ _ ((w.alloc (.cells u.lst.toArray 43)).alloc (.cells zeros5.toArray 46))
  generalize ((w.alloc (.cells u.lst.toArray 43)).alloc (.cells zeros5.toArray 46)) = W0 at bp br hb0 ⊢
  have HB0 := Lib.hid hb0
  have HP0 := Lib.hid bp
  have HR0 := Lib.hid br
  clear hb0 bp br
  obtain ⟨dsc, hd1, hd2⟩ := row_mac
  cases V with
  | false =>
    have HS : Hid (startM u.d = macZ ∧ startE u.d = 21) := Lib.hid (by unfold startM startE; rw [HV.out]; exact ⟨rfl, rfl⟩)
    go_wp2_with (first
      | ((with_reducible show wpList _ _ _ (Oper.mk _ (.load 43 _) _ _ _ _ :: _) _ _); refine ld_prg HP0.out (lst_ten u) rfl _ rfl rfl ?_)
      | (go_at_call 43; (with_reducible refine (CV.out _ HB0.out).mono ?_); rintro e1 w1 ⟨rfl, hb1⟩)
      | ((with_reducible show wpList _ _ _ (Oper.mk _ (.build _ _) _ _ _ _ :: _) _ _); refine wp_bldR rfl 46 _ rfl _ rfl built_mac0 ?_)
      | ((with_reducible show wpList _ _ _ (Oper.mk _ (.store 46 _ _) _ _ _ _ :: _) _ _); refine st_mac (L := zeros5) (HR0.out.keep hb1) rfl rfl rfl rfl _ _ rfl rfl rfl ?_; intro w9 hb9 hg9))
    refine bodyPost_ret (resCT rfl _ _ w9 (g := w.heap.size + 1) (v := .agg zeros5.toArray) rfl (res_box _ hb9 dsc hd1 hd2 size_mac)) rfl ?_
    rw [HS.out.1, HS.out.2]
    exact RetMacE.mk (m := macZ) rfl rfl rfl rfl Ints.nil Ints.nil Ints.nil (grown_toI (below_then HB0.out hb1) hg9 (by omega))
  | true =>
    have HS : Hid (startM u.d = ⟨List.replicate 8 0, List.replicate 128 0, List.replicate rn 0, 0, 0⟩ ∧ startE u.d = 0) := Lib.hid (by unfold startM startE mac0; rw [HV.out, HRN.out]; exact ⟨rfl, rfl⟩)
    have hr8 := hrl rfl
    clear hrl
    go_upto_region 3 with (first
      | ((with_reducible show wpList _ _ _ (Oper.mk _ (.load 43 _) _ _ _ _ :: _) _ _); refine ld_prg HP0.out (lst_ten u) rfl _ rfl rfl ?_)
      | (go_at_call 43; (with_reducible refine (CV.out _ HB0.out).mono ?_); rintro e1 w1 ⟨rfl, hb1⟩))
    have HB1 := Lib.hid (below_then HB0.out hb1)
    have HP1 := Lib.hid (HP0.out.keep hb1)
    have HR1 := Lib.hid (HR0.out.keep hb1)
    clear hb1 HB0 HP0 HR0 CV
    obtain ⟨B, hB⟩ : ∃ B, w.heap.size + 2 = B := ⟨_, rfl⟩
    have HBE := Lib.hid hB
    have HBW : Hid (B ≤ w1.heap.size) := by have := HR1.out.1; rw [← hB]; exact Lib.hid (by omega)
    clear hB
    refine wp_region_grow 7 (fun w' => Below w1.heap.size w1 w') (fun a b => Below a.heap.size a b) (startF B w.heap.size rn (.slice u.RA rn u.rc)) (by kernel_rfl) (by kernel_rfl) (Below.refl _ _).drew (fun a b h1 h2 => ⟨below_then h1 h2, fun i _ v => startF_keep h2 i v⟩) ?_ ?_
    · refine ⟨?_, ?_, ?_, ?_, ?_, ?_, ?_, trivial⟩
      · intro vs w5 hC hF
        simp [stL, depsB, Region.binds, Act.put]
        refine mk_int rfl _ _ rfl w5.heap.size 8 rfl rfl rfl (by decide) (Nat.le_refl _) ?_
        intro w6 ho6 hb6
        exact wpList_nil ⟨rfl, _, rfl, ho6.base (by have := HBW.out; have := hC.size; omega), hb6⟩
      · intro vs w5 hC hF
        simp [stL, depsB, Region.binds, Act.put]
        refine mk_int rfl _ _ rfl w5.heap.size 128 rfl rfl rfl (by decide) (Nat.le_refl _) ?_
        intro w6 ho6 hb6
        exact wpList_nil ⟨rfl, _, rfl, ho6.base (by have := HBW.out; have := hC.size; omega), hb6⟩
      · intro vs w5 hC hF
        simp [stL, depsB, Region.binds, Act.put]
        go_wp2_with fail
        exact ⟨rfl, Below.refl _ _⟩
      · intro vs w5 hC hF
        have x8 : w5.cell? ⟨w.heap.size, 8, none⟩ = some (.slice u.RA rn u.rc) := ((HP1.out.keep hC).2.1 8).trans (lst_eight HRN.out)
        have e2 : vs 2 = .pointer (some ⟨w.heap.size, 8, none⟩) := hF 2 (by decide)
        simp [stL, depsB, Region.binds, Act.put, e2]
        go_wp2_with fail
        exact ⟨rfl, Below.refl _ _⟩
      · intro vs w5 hC hF
        have e3 : vs 3 = .slice u.RA rn u.rc := hF 3 (by decide)
        simp [stL, depsB, Region.binds, Act.put, e3]
        go_wp2_with fail
        exact ⟨rfl, Below.refl _ _⟩
      · intro vs w5 hC hF
        have e4 : vs 4 = .int .i64 (rn : Int) := hF 4 (by decide)
        simp [stL, depsB, Region.binds, Act.put, e4]
        refine mk_int rfl _ _ rfl w5.heap.size rn rfl rfl rfl (by omega) (Nat.le_refl _) ?_
        intro w6 ho6 hb6
        exact wpList_nil ⟨rfl, _, rfl, ho6.base (by have := HBW.out; have := hC.size; omega), hb6⟩
      · intro vs w5 hC hF
        have h0 : Own B w5 (vs 0) (List.replicate 8 0) := hF 0 (by decide)
        have h1 : Own B w5 (vs 1) (List.replicate 128 0) := hF 1 (by decide)
        have h5 : Own B w5 (vs 5) (List.replicate rn 0) := hF 5 (by decide)
        obtain ⟨A0, c0, e0, -⟩ := own_form h0.1
        obtain ⟨A1, c1, e1, -⟩ := own_form h1.1
        obtain ⟨A5, c5, e5, -⟩ := own_form h5.1
        rw [e0] at h0
        rw [e1] at h1
        rw [e5] at h5
        simp only [List.length_replicate] at e0 e1 e5 h0 h1 h5
        simp [stL, depsB, Region.binds, Act.put, e0, e1, e5]
        refine wp_bldR rfl 46 _ rfl _ rfl (built_mac3 A0 A1 A5 _ c0 _ c1 _ c5) ?_
        exact wpList_nil ⟨rfl, _, rfl, ⟨_, _, _, rfl, h0, h1, h5⟩, Below.refl _ _⟩
    intro vs w5 hC hF
    obtain ⟨a, b, c, e6, h0, h1, h5⟩ := hF 6 (by decide)
    obtain ⟨A0, c0, rfl, -⟩ := own_form h0.1
    obtain ⟨A1, c1, rfl, -⟩ := own_form h1.1
    obtain ⟨A5, c5, rfl, -⟩ := own_form h5.1
    simp only [List.length_replicate] at e6 h0 h1 h5
    show wpList Tryd.prog _ _ [_, _] _ _
    simp [stL, Act.put, e6]
    clear hF e6
    refine st_mac (L := [.slice A0 8 c0, .slice A1 128 c1, .slice A5 rn c5, .int .i64 0, .int .i64 0]) (HR1.out.keep hC) rfl rfl rfl rfl _ _ rfl rfl rfl ?_
    intro w9 hb9 hg9
    have HB9 := Lib.hid (grown_toI (below_then HB1.out hC) hg9 (by omega))
    have hgB : w.heap.size + 1 < B := by have := HBE.out; omega
    have O0 := Lib.hid (own_setsI h0.1 hg9 hgB)
    have O1 := Lib.hid (own_setsI h1.1 hg9 hgB)
    have O5 := Lib.hid (own_setsI h5.1 hg9 hgB)
    have HZ : Hid (∀ n, ∀ x ∈ List.replicate n (0 : Int), I64 x) := Lib.hid fun n x hx => by rw [(List.mem_replicate.1 hx).2]; unfold I64; omega
    clear h0 h1 h5 hg9 hgB hC
    go_wp2_with fail
    refine bodyPost_ret (resCT rfl _ _ w9 (g := w.heap.size + 1) (v := .agg [.slice A0 8 c0, .slice A1 128 c1, .slice A5 rn c5, .int .i64 0, .int .i64 0].toArray) rfl (res_box _ hb9 dsc hd1 hd2 size_mac)) rfl ?_
    rw [HS.out.1, HS.out.2]
    have i0 : Own B w9 (.slice A0 8 c0) (List.replicate 8 0) := ⟨O0.out, HZ.out 8⟩
    have i1 : Own B w9 (.slice A1 128 c1) (List.replicate 128 0) := ⟨O1.out, HZ.out 128⟩
    have i5 : Own B w9 (.slice A5 rn c5) (List.replicate rn 0) := ⟨O5.out, HZ.out rn⟩
    exact RetMacE.mk rfl (List.length_replicate ..) (List.length_replicate ..) (List.length_replicate ..) i0.ints i1.ints i5.ints HB9.out
end Go.Proofs.YtgdccmmcjicgkaaDoor
