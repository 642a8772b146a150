/- Run of package simulate, where nothing is wrong. -/
import Derived.Test.YtdiflpbioohddaaDoortS22toS28
import Derived.Test.YtdiflpbioohddaaDoortE19toOn
set_option linter.unusedVariables false
set_option linter.unusedSimpArgs false
namespace Go.Proofs.YtdiflpbioohddaaDoor
open Go.RowKit
theorem entry3R (w : World) (L M N : List Value) : ∀ W, W = (((w.alloc (.cells L.toArray 41)).alloc (.cells M.toArray 32)).alloc (.cells N.toArray 32)) → Box W w.heap.size L ∧ Box W (w.heap.size + 1) M ∧ Box W (w.heap.size + 2) N ∧ Below w.heap.size w W := fun W hW => by
 obtain ⟨h1, h2, h3⟩ := entryPM w L M _ rfl
 subst hW
 exact ⟨h1.alloc _, h2.alloc _, Box.new (by simp), h3.alloc h3.size _⟩
theorem mlst_five (x : MacA) : x.lst.length = 5 := rfl
def zeros19 : List Value := (zeros10 ++ zeros5) ++ [.int .i64 0, .int .i64 0, .int .i64 0, .bool false]
theorem built_run (u : PrgA) (A1 A2 A3 : Option Addr) (n1 n2 n3 c1 c2 c3 : Nat) (cy st : Int) : Tryd.prog.built 115 [(0, .agg u.lst.toArray), (1, .agg #[.slice A1 n1 c1, .slice A2 n2 c2, .slice A3 n3 c3, .int .i64 cy, .int .i64 st])] =
  some ((u.lst ++ [.slice A1 n1 c1, .slice A2 n2 c2, .slice A3 n3 c3, .int .i64 cy, .int .i64 st, .int .i64 0, .int .i64 0, .int .i64 0, .bool false] : List Value).toArray) := by kernel_rfl
theorem size_run : (Tryd.prog.info? 115).map (·.size) = some 19 := by kernel_rfl
def rnF (B gp : Nat) (u : PrgA) (x : MacA) : Nat → Value → World → Prop
 | 0, v, _ => v = .agg u.lst.toArray
 | 1, v, _ => v = .agg x.lst.toArray
 | 2, v, w => ∃ A1 A2 A3 n1 n2 n3 c1 c2 c3, v = .agg #[.slice A1 n1 c1, .slice A2 n2 c2, .slice A3 n3 c3, .int .i64 x.m.cyc, .int .i64 x.m.stl] ∧ MacOwn B w (.slice A1 n1 c1) (.slice A2 n2 c2) (.slice A3 n3 c3) x.m
 | 3, v, w => ∃ A1 A2 A3 n1 n2 n3 c1 c2 c3, v = .agg (u.lst ++ [.slice A1 n1 c1, .slice A2 n2 c2, .slice A3 n3 c3, .int .i64 x.m.cyc, .int .i64 x.m.stl, .int .i64 0, .int .i64 0, .int .i64 0, .bool false] : List Value).toArray ∧ MacOwn B w (.slice A1 n1 c1) (.slice A2 n2 c2) (.slice A3 n3 c3) x.m
 | 4, v, w => ∃ q, v = .pointer (some ⟨q, 0, none⟩) ∧ Box w q zeros19 ∧ TyAt w q 115 ∧ B ≤ q
 | _, _, _ => False
theorem rnF_keep {B gp : Nat} {u : PrgA} {x : MacA} {w w' : World} (h : Below w.heap.size w w') : ∀ i v, rnF B gp u x i v w → rnF B gp u x i v w'
 | 0, _, e | 1, _, e => e
 | 2, _, ⟨a, b, c, d, e, f, g, i, j, k, o⟩ => ⟨a, b, c, d, e, f, g, i, j, k, o.grow h⟩
 | 3, _, ⟨a, b, c, d, e, f, g, i, j, k, o⟩ => ⟨a, b, c, d, e, f, g, i, j, k, o.grow h⟩
 | 4, _, ⟨q, e, b, t, g⟩ => ⟨q, e, b.keep h, t.grow b.1 h, g⟩
 | n + 5, _, e => e.elim
theorem mul_in {a b A B : Int} (ha : 0 ≤ a) (ha' : a ≤ A) (hb : 0 ≤ b) (hb' : b ≤ B) : 0 ≤ a * b ∧ a * b ≤ A * B := ⟨Int.mul_nonneg ha hb, Int.mul_le_mul ha' hb' hb (by omega)⟩
theorem time_in {l : List Ins} (hl : l.length ≤ 512) : (0 ≤ cycF l ∧ cycF l ≤ 2048) ∧ (-512 ≤ stlF l ∧ stlF l ≤ 2048) := by
 have h := (tmF_in l l.length).1
 rw [List.take_length] at h
 unfold cycF stlF
 constructor <;> split <;> omega
theorem runM_bnd {d : PrgD} {m : Mac} {xs : List Int} (hl : d.code.length ≤ 512) (hx : xs.length ≤ 4096) (hc : 0 ≤ m.cyc ∧ m.cyc ≤ 1099511627776) (hs : 0 ≤ m.stl ∧ m.stl ≤ 1099511627776) :
  (0 ≤ (runM d m xs).cyc ∧ (runM d m xs).cyc ≤ 1200000000000) ∧ (-1000000000 ≤ (runM d m xs).stl ∧ (runM d m xs).stl ≤ 1200000000000) := by
 obtain ⟨e1, e2⟩ := runM_time d xs m
 obtain ⟨a, b⟩ := time_in hl
 have h1 := mul_in (a := (xs.length : Int)) (b := cycF d.code) (A := 4096) (B := 2048) (by omega) (by omega) a.1 a.2
 have h2 := mul_in (a := (xs.length : Int)) (b := stlF d.code + 512) (A := 4096) (B := 2560) (by omega) (by omega) (by omega) (by omega)
 rw [Int.mul_add] at h2
 rw [e1, e2]
 constructor <;> omega
theorem wordD_take {d : PrgD} {xs : List Int} (h : wordD d xs = true) (k : Nat) : wordD d (xs.take k) = true := by
 unfold wordD wordsB at *
 exact List.all_eq_true.2 fun y hy => List.all_eq_true.1 h y (List.mem_of_mem_take hy)
def runRel (B C g ga ma gc mc : Nat) (hv : Value) (u : PrgA) (m : Mac) (xs : List Int) (w0 : World) (xn : Nat) (a b c : Value) (wr : World) : Prop :=
 ∃ (k : Nat) (xx : Int) (s : Smp), k ≤ xn ∧ b = .int .i64 (runV u.d m (xs.take k)) ∧ c = .int .i64 k ∧ Hid (RunAt ⟨a, runO u.d m (xs.take k)⟩ B wr g ga ma gc mc hv u (runM u.d m (xs.take k)).cyc (runM u.d m (xs.take k)).stl xx s) ∧
  Hid (s.regs = (runM u.d m (xs.take k)).regs ∧ s.mem = (runM u.d m (xs.take k)).mem ∧ s.heads = (runM u.d m (xs.take k)).heads) ∧ Hid (∃ q, a.ownBlock = some q ∧ C ≤ q) ∧ Hid (Below B w0 wr)
theorem run_made {B : Nat} {w w' : World} {g : Nat} {u : PrgA} {m : Mac} {A1 A2 A3 : Option Addr} {n1 n2 n3 c1 c2 c3 : Nat} (ho : MacOwn B w (.slice A1 n1 c1) (.slice A2 n2 c2) (.slice A3 n3 c3) m) (l1 : m.regs.length = 8) (l2 : m.mem.length = 128) (ht : TyAt w g 115) (hB : B ≤ g) (hg : w.grownBy w' (some g))
  (hb : Box w' g (u.lst ++ [.slice A1 n1 c1, .slice A2 n2 c2, .slice A3 n3 c3, .int .i64 m.cyc, .int .i64 m.stl, .int .i64 0, .int .i64 0, .int .i64 0, .bool false])) :
  ∃ ga ma, RunAt ⟨.slice none 0 0, []⟩ B w' g ga ma c1 c2 (.slice A3 n3 c3) u m.cyc m.stl 0 (smp0 m) := by
 have o1 := own_ne ho.regs.1 ht (by decide)
 have o2 := own_ne ho.mem.1 ht (by decide)
 have o3 := own_ne ho.heads.1 ht (by decide)
 obtain ⟨ga, d1, e1⟩ := own_some ho.regs (by omega)
 obtain ⟨ma, d2, e2⟩ := own_some ho.mem (by omega)
 have hn1 := ho.n1
 have hn2 := ho.n2
 have k1 := own_keptI ho.regs hg o1
 have k2 := own_keptI ho.mem hg o2
 have k3 := own_keptI ho.heads hg o3
 injection e1 with a1 a2 a3
 injection e2 with b1 b2 b3
 subst a1 b1
 have a4 : n1 = 8 := a2.trans l1
 have b4 : n2 = 128 := b2.trans l2
 subst a4 b4
 refine ⟨ga, ma, hb, k1, k2, k3, fun e => o1 (by rw [← e]; rfl), fun e => o2 (by rw [← e]; rfl), fun e => (hn1 ga rfl).1 (by rw [e]; rfl), o3, (hn1 ga rfl).2, hn2 ma rfl, hB, ?_, fun e => (nomatch e), fun e => (nomatch e), fun e => (nomatch e), fun _ _ e => (nomatch e)⟩
 exact ⟨⟨rfl, .inl ⟨rfl, rfl⟩⟩, fun _ h => (nomatch h)⟩
def RetRunS (w : World) (d : PrgD) (m : Mac) (xs : List Int) (e : Ending) (w' : World) : Prop :=
 ∃ vo vg vm vh, e = .returned (.tuple #[vo, .agg #[vg, vm, vh, .int .i64 (runM d m xs).cyc, .int .i64 (runM d m xs).stl], .int .i64 (runV d m xs), .int .i64 0]) ∧ Own w.heap.size w' vo (runO d m xs) ∧ MacOwn w.heap.size w' vg vm vh (runM d m xs) ∧ Below w.heap.size w w'
set_option maxRecDepth 100000 in
set_option maxHeartbeats 16000000 in
theorem sm_Run (u : PrgA) (x : MacA) (XA : Option Addr) (xn xc : Nat) (xs : List Int) (w : World) (hf : FormsAt w) (hp : PrgAt w u) (hx : MacAt w x) (hi : Ints w XA xs) (hm : macB u.d x.m = true) (hw : wordD u.d xs = true) (hn : xs.length = xn) (h4 : xn ≤ 4096) :
  Calls Tryd.prog 25 #[u.v, x.v, .slice XA xn xc] w (RetRunS w u.d x.m xs) := by
 obtain ⟨hv, hok, hcy, hst⟩ := macB_parts hm
 have hfc := valid_fine hv
 have hpos := (valid_parts hv).2.2.1
 have hrl := (valid_rl hv).1
 have hl1 : x.m.regs.length = 8 := hok.rl
 have hl2 : x.m.mem.length = 128 := hok.ml
 have hl3 : x.m.heads.length ≤ 8 := by rw [hok.hl]; exact hrl
 obtain ⟨cn, hcn⟩ : ∃ n, u.d.code.length = n := ⟨_, rfl⟩
 rw [hcn] at hpos
 have CV : Hid (∀ w1, Below w.heap.size w w1 → Calls Tryd.prog 39 #[.agg u.lst.toArray] w1 fun e w' => e = .returned (.bool true) ∧ Below w1.heap.size w1 w') := Lib.hid fun w1 hb => by
  have h := pr_Valid u w1 (hf.grow hb) (hp.grow hb) (by omega) (by omega) hv
  unfold PrgA.v at h
  exact h
 have CM : Hid (∀ w1, Below w.heap.size w w1 → Calls Tryd.prog 42 #[.agg u.lst.toArray, .agg x.lst.toArray] w1 fun e w' => e = .returned (.bool true) ∧ Below w1.heap.size w1 w') := Lib.hid fun w1 hb => by
  have h := sm_Valid u x w1 (hf.grow hb) (hp.grow hb) (hx.grow hb) (by omega) (by omega) ⟨by omega, by omega, by omega⟩ hm
  unfold PrgA.v MacA.v at h
  exact h
 have CC : Hid (∀ w1, Below w.heap.size w w1 → Calls Tryd.prog 60 #[.agg x.lst.toArray] w1 (RetMac w1 x.m)) := Lib.hid fun w1 hb => by
  have h := sm_clone x w1 (hx.grow hb) (by omega) (by omega) (by omega)
  unfold MacA.v at h
  exact h
 have CT : Hid (∀ w1 Y yc, Below w.heap.size w w1 → InsAt w1 Y u.d.code → Calls Tryd.prog 56 #[.slice Y cn yc] w1 fun e w' => e = .returned (.tuple #[.int .i64 (cycF u.d.code), .int .i64 (stlF u.d.code), .int .i64 0]) ∧ Below w1.heap.size w1 w') := Lib.hid fun w1 Y yc hb hy => by
  have h := sm_Time Y cn yc u.d.code w1 (hf.grow hb) hy hcn (by omega)
  unfold RetTime at h
  have e2 : depE u.d.code = 0 := by unfold depE; rw [if_pos hfc]
  rw [e2] at h
  exact h
 have HN := Lib.hid hn
 have HI := Lib.hid hi
 have HP := Lib.hid hp
 have HV := Lib.hid hv
 have HW := Lib.hid hw
 have HOK := Lib.hid hok
 have HCN := Lib.hid hcn
 have HCY := Lib.hid hcy
 have HST := Lib.hid hst
 have HL3 := Lib.hid hl3
 have ev : u.v = .agg u.lst.toArray := rfl
 have em : x.v = .agg x.lst.toArray := rfl
 rw [ev, em]
 clear ev em hf hp hx hi hm hw hn hv hok hcy hst hfc hcn hl1 hl2 hl3
 go_enter Tryd.func25, Tryd.ntmps25
 go_upto_region 1 with fail
 obtain ⟨bp, bm, br, hb0⟩ := entry3R w u.lst x.lst zeros5 _ rfl
 change Code.wp _ _ _ _ (((w.alloc (.cells u.lst.toArray 41)).alloc (.cells x.lst.toArray 32)).alloc (.cells zeros5.toArray 32))
 generalize (((w.alloc (.cells u.lst.toArray 41)).alloc (.cells x.lst.toArray 32)).alloc (.cells zeros5.toArray 32)) = W0 at bp bm br hb0 ⊢
 have HB0 := Lib.hid hb0
 have HP0 := Lib.hid bp
 have HM0 := Lib.hid bm
 have HR0 := Lib.hid br
 clear hb0 bp bm br
 have h41 : ¬ (4096 : Int) < (xn : Int) := by omega
 go_upto_region 3 with (first
  | ((with_reducible show wpList _ _ _ (Oper.mk (some 23) (.load _ _) _ _ _ _ :: _) _ _); refine ld_prg HP0.out (lst_ten u) rfl _ rfl rfl ?_)
  | (go_at_call 39; (with_reducible refine (CV.out _ HB0.out).mono ?_); rintro e1 w1 ⟨rfl, hb1⟩))
 have HB1 := Lib.hid (below_then HB0.out hb1)
 have HP1 := Lib.hid (HP0.out.keep hb1)
 have HM1 := Lib.hid (HM0.out.keep hb1)
 have HR1 := Lib.hid (HR0.out.keep hb1)
 clear hb1 HB0 HP0 HM0 HR0 CV
 go_upto_region 7 with (first
  | ((with_reducible show wpList _ _ _ (Oper.mk (some 31) (.load _ _) _ _ _ _ :: _) _ _); refine ld_prg HP1.out (lst_ten u) rfl _ rfl rfl ?_)
  | ((with_reducible show wpList _ _ _ (Oper.mk (some 32) (.load _ _) _ _ _ _ :: _) _ _); refine ld_mac HM1.out (mlst_five x) rfl _ rfl rfl ?_)
  | (go_at_call 42; (with_reducible refine (CM.out _ HB1.out).mono ?_); rintro e1 w2 ⟨rfl, hb2⟩))
 have HB2 := Lib.hid (below_then HB1.out hb2)
 have HP2 := Lib.hid (HP1.out.keep hb2)
 have HM2 := Lib.hid (HM1.out.keep hb2)
 have HR2 := Lib.hid (HR1.out.keep hb2)
 clear hb2 HB1 HP1 HM1 HR1 CM h41
 go_upto_block 0 with fail
 go_cut [] (fun wx => Hid (Below w.heap.size w wx) ∧ Hid (Box wx w.heap.size u.lst) ∧ Hid (Box wx (w.heap.size + 1) x.lst) ∧ Hid (Box wx (w.heap.size + 2) zeros5))
 case first =>
  go_wp2_with fail
  go_loopw [38] (fun y wr => ∃ k : Nat, k ≤ xn ∧ y = .int .i64 k ∧ Hid (Below w.heap.size w wr) ∧ Hid (Box wr w.heap.size u.lst) ∧ Hid (Box wr (w.heap.size + 1) x.lst) ∧ Hid (Box wr (w.heap.size + 2) zeros5)) (fun y _ => xn - (intOf y).toNat)
  case atStart => exact ⟨0, Nat.zero_le _, rfl, HB2, HP2, HM2, HR2⟩
  case round =>
   obtain ⟨k, hk, rfl, HB, HPk, HMk, HRk⟩ := hrel
   by_cases hlt : k < xn
   ·obtain ⟨ad, y, rfl, hbk, hy, hc, i1, i2⟩ := (HI.out.grow HB.out).at_ (k := k) (by rw [HN.out]; exact hlt)
    have hft : fitsW u.d.d0 u.d.d1 u.d.d2 u.d.d3 y = true := by
     have := HW.out
     unfold wordD wordsB at this
     exact List.all_eq_true.1 this y (List.mem_of_getElem? hy)
    have HFT := Lib.hid hft
    have q1 : (0 : Int) ≤ (k : Int) := by omega
    have q2 : (k : Int) < (xn : Int) := by omega
    have wk : IntKind.i64.wrap ((k : Int) + 1) = ((k + 1 : Nat) : Int) := (IntWalk.i64_in _ (by omega)).trans (by omega)
    have x0 : wr.cell? ⟨w.heap.size, 0, none⟩ = some (.int .i64 u.d.d0) := HPk.out.2.1 0
    have x1 : wr.cell? ⟨w.heap.size, 1, none⟩ = some (.int .i64 u.d.d1) := HPk.out.2.1 1
    have x2 : wr.cell? ⟨w.heap.size, 2, none⟩ = some (.int .i64 u.d.d2) := HPk.out.2.1 2
    have x3 : wr.cell? ⟨w.heap.size, 3, none⟩ = some (.int .i64 u.d.d3) := HPk.out.2.1 3
    clear hft hbk hy
    go_wp2_with (go_at_call 40; (with_reducible refine (fits_is HFT.out _).mono ?_); rintro e1 w3 ⟨rfl, hb3⟩)
    go_roundw
    case rel => exact ⟨k + 1, by omega, by go_num, Lib.hid (below_then HB.out hb3), Lib.hid (HPk.out.keep hb3), Lib.hid (HMk.out.keep hb3), Lib.hid (HRk.out.keep hb3)⟩
    case measure => simp [intOf]; omega
   ·obtain rfl : k = xn := by omega
    go_wp2_with fail
    go_meet
    exact ⟨HB, HPk, HMk, HRk⟩
 case rest =>
  clear HB2 HP2 HM2 HR2
  obtain ⟨HB2, HP2, HM2, HR2⟩ := hcut
  have x9 : wc.cell? ⟨w.heap.size, 9, none⟩ = some (.slice u.CA cn u.cc) := (HP2.out.2.1 9).trans (lst_nine HCN.out)
  have HX2 := Lib.hid (HP.out.grow HB2.out).2
  go_upto_region 14 with (go_at_call 56; (with_reducible refine (CT.out _ _ _ HB2.out HX2.out).mono ?_); rintro e1 w3 ⟨rfl, hb3⟩)
  have HB3 := Lib.hid (below_then HB2.out hb3)
  have HP3 := Lib.hid (HP2.out.keep hb3)
  have HM3 := Lib.hid (HM2.out.keep hb3)
  have HR3 := Lib.hid (HR2.out.keep hb3)
  clear hb3 HB2 HP2 HM2 HR2 HX2 x9 CT
  go_upto_region 17 with (go_at_call 59; (with_reducible refine (sm_operations _).mono ?_); rintro e1 w4 ⟨gt, rfl, ht4, hgt, hb4⟩)
  have HB4 := Lib.hid (below_then HB3.out hb4)
  have HP4 := Lib.hid (HP3.out.keep hb4)
  have HM4 := Lib.hid (HM3.out.keep hb4)
  have HR4 := Lib.hid (HR3.out.keep hb4)
  have HT4 := Lib.hid ht4
  have HGT : Hid (w.heap.size + 3 ≤ gt) := by have := HR3.out.1; exact Lib.hid (by omega)
  clear hb4 HB3 HP3 HM3 HR3 ht4 hgt
  obtain ⟨B, hB⟩ : ∃ x, w4.heap.size = x := ⟨_, rfl⟩
  have HBE := Lib.hid hB
  clear hB
  refine wp_region_grow 5 (fun w' => Below w4.heap.size w4 w') (fun w1 w2 => Below w1.heap.size w1 w2) (rnF B w.heap.size u x) (by kernel_rfl) (by kernel_rfl) (Below.refl _ _).drew (fun w1 w2 h1 h2 => ⟨below_then h1 h2, fun i _ v => rnF_keep h2 i v⟩) ?_ ?_
  ·refine ⟨?_, ?_, ?_, ?_, ?_, trivial⟩
   ·intro vs w5 hC hF
    simp [stL, depsB, Region.binds, Act.put]
    refine ld_prg (HP4.out.keep hC) (lst_ten u) rfl _ rfl rfl ?_
    refine wpList_nil ?_
    exact ⟨rfl, _, rfl, rfl, Below.refl _ _⟩
   ·intro vs w5 hC hF
    simp [stL, depsB, Region.binds, Act.put]
    refine ld_mac (HM4.out.keep hC) (mlst_five x) rfl _ rfl rfl ?_
    refine wpList_nil ?_
    exact ⟨rfl, _, rfl, rfl, Below.refl _ _⟩
   ·intro vs w5 hC hF
    have e1 : vs 1 = _ := hF 1 (by decide)
    simp [stL, depsB, Region.binds, Act.put, e1]
    go_wp2_with fail
    refine (CC.out _ (below_then HB4.out hC)).mono ?_
    rintro e w6 ⟨vg, vm, vh, rfl, ho, hb6⟩
    obtain ⟨A1, c1, rfl, -⟩ := own_form ho.regs.1
    obtain ⟨A2, c2, rfl, -⟩ := own_form ho.mem.1
    obtain ⟨A3, c3, rfl, -⟩ := own_form ho.heads.1
    have hle : B ≤ w5.heap.size := by have := hC.size; have := HBE.out; omega
    go_wp2_with fail
    exact ⟨A1, A2, A3, _, _, _, c1, c2, c3, rfl, ⟨ho.regs.base hle, ho.mem.base hle, ho.heads.base hle, ho.n1, ho.n2⟩⟩
   ·intro vs w5 hC hF
    have e0 : vs 0 = _ := hF 0 (by decide)
    obtain ⟨A1, A2, A3, n1, n2, n3, c1, c2, c3, e2, ho⟩ := hF 2 (by decide)
    simp [stL, depsB, Region.binds, Act.put, e0, e2]
    refine wp_bldR rfl 115 _ rfl _ rfl (built_run u A1 A2 A3 n1 n2 n3 c1 c2 c3 x.m.cyc x.m.stl) ?_
    refine wpList_nil ?_
    exact ⟨rfl, _, rfl, ⟨A1, A2, A3, n1, n2, n3, c1, c2, c3, rfl, ho⟩, Below.refl _ _⟩
   ·intro vs w5 hC hF
    simp [stL, depsB, Region.binds, Act.put]
    go_wp2_with fail
    have hbx : Box (w5.alloc (.cells zeros19.toArray 115)) w5.heap.size zeros19 := Box.new rfl
    exact ⟨⟨_, rfl, hbx, ⟨_, _, heap_alloc_new w5 _⟩, by have := hC.size; have := HBE.out; omega⟩, Below.alloc (Below.refl _ _) (Nat.le_refl _) _⟩
  ·intro vs w5 hC hF
   obtain ⟨A1, A2, A3, n1, n2, n3, c1, c2, c3, e3, ho⟩ := hF 3 (by decide)
   obtain ⟨g, e4, hbq, hty, hqB⟩ := hF 4 (by decide)
   simp [stL, Act.put, e3, e4]
   obtain ⟨L0, hL0⟩ : ∃ L, L = (u.lst ++ [.slice A1 n1 c1, .slice A2 n2 c2, .slice A3 n3 c3, .int .i64 x.m.cyc, .int .i64 x.m.stl, .int .i64 0, .int .i64 0, .int .i64 0, .bool false] : List Value) := ⟨_, rfl⟩
   have hlen : L0.length = 19 := by rw [hL0]; rfl
   have hall : L0.all (·.oneCell') = true := by rw [hL0]; rfl
   rw [← hL0]
   refine wp_st rfl 115 _ _ rfl g 0 L0 rfl rfl (size_run.trans (congrArg some hlen.symm)) hall hbq (by rw [hlen]; decide) (e := rfl) ?_
   intro w6 hb6 hg6
   have e7 : List.take 0 zeros19 ++ L0 ++ List.drop (0 + L0.length) zeros19 = L0 := by
    rw [hlen]
    show [] ++ L0 ++ [] = L0
    simp
   rw [e7, hL0] at hb6
   obtain ⟨ga, ma, hrun⟩ := run_made ho (HOK.out.rl) (HOK.out.ml) hty hqB hg6 hb6
   have HRUN := Lib.hid hrun
   have HB6 : Hid (Below w.heap.size w w6) := Lib.hid (grown_toI (below_then HB4.out hC) hg6 (by have := HBE.out; have := HB4.out.size; omega))
   have HC0 : Hid (Below B w4 w6) := Lib.hid (by have hh := grown_toI (below_then (Below.refl w4.heap.size w4) hC) hg6 (by have := HBE.out; omega); rw [← HBE.out]; exact hh)
   clear hb6 hg6 hrun e3 e4 hbq hty hF ho hL0 hlen hall e7
   refine wpList_nil ⟨rfl, ?_⟩
   have HLT : Hid (g < w6.heap.size ∧ ga < w6.heap.size ∧ ma < w6.heap.size ∧ ∀ q, (Value.slice A3 n3 c3).ownBlock = some q → q < w6.heap.size) := Lib.hid ⟨HRUN.out.box.1, own_lt HRUN.out.regs _ rfl, own_lt HRUN.out.mem _ rfl, own_lt HRUN.out.heads⟩
   have HBB : Hid (B ≤ w6.heap.size) := by have := HRUN.out.box.1; exact Lib.hid (by omega)
   have HC6 : Hid (Below B w4 w6) := Lib.hid HC0.out
   clear HC0
   generalize Value.slice A3 n3 c3 = hv at HRUN HLT
   simp only [Act.put]
   go_upto_region 19 with (at_make; refine mk_int0 rfl _ _ rfl w6.heap.size xn rfl rfl rfl (by omega) (Nat.le_refl _) ?_; intro w7 ho7 hb7)
   have HRUN7 : Hid (RunAt ⟨.slice (some ⟨w6.heap.size, 0, none⟩) 0 xn, []⟩ B w7 g ga ma c1 c2 hv u x.m.cyc x.m.stl 0 (smp0 x.m)) := Lib.hid (HRUN.out.under hb7 HLT.out.1 HLT.out.2.1 HLT.out.2.2.1 HLT.out.2.2.2 (ho7.base HBB.out) (fun q e => Nat.le_of_eq (Option.some.inj (show some w6.heap.size = some q from e))))
   have HC7 : Hid (Below B w4 w7) := Lib.hid (HC6.out.trans (hb7.mono HBB.out))
   clear ho7 hb7 HRUN HC6 HB6
   generalize w6.heap.size = C at HRUN7 HLT HBB ⊢
   go_wp2_with fail
   go_loopw [17, 18, 70] (fun a b c wr => runRel B C g ga ma c1 c2 hv u x.m xs w4 xn a b c wr) (fun _ _ c _ => xn - (intOf c).toNat)
   case atStart => exact ⟨0, 0, smp0 x.m, Nat.zero_le _, rfl, rfl, HRUN7, Lib.hid ⟨rfl, rfl, rfl⟩, Lib.hid ⟨C, rfl, Nat.le_refl C⟩, HC7⟩
   case round =>
    obtain ⟨k, xx, s, hk, rfl, rfl, HRUN, HS, HCq, HC⟩ := hrel
    have HCk : Hid (Below w4.heap.size w4 wr) := Lib.hid (by rw [HBE.out]; exact HC.out)
    have HBk : Hid (Below w.heap.size w wr) := Lib.hid (below_then HB4.out HCk.out)
    by_cases hlt : k < xn
    ·obtain ⟨ad, y, rfl, hbk, hy, hc, i1, i2⟩ := (HI.out.grow HBk.out).at_ (k := k) (by rw [HN.out]; exact hlt)
     have hft : fitD u.d y = true := by
      have := HW.out
      unfold wordD wordsB at this
      exact List.all_eq_true.1 this y (List.mem_of_getElem? hy)
     have HFT := Lib.hid hft
     have HY := Lib.hid hy
     have q1 : (0 : Int) ≤ (k : Int) := by omega
     have q2 : (k : Int) < (xn : Int) := by omega
     have wk : IntKind.i64.wrap ((k : Int) + 1) = ((k + 1 : Nat) : Int) := (IntWalk.i64_in _ (by omega)).trans (by omega)
     obtain ⟨M, hM⟩ : ∃ M, runM u.d x.m (xs.take k) = M := ⟨_, rfl⟩
     obtain ⟨O, hO⟩ : ∃ O, runO u.d x.m (xs.take k) = O := ⟨_, rfl⟩
     obtain ⟨V, hV⟩ : ∃ V, runV u.d x.m (xs.take k) = V := ⟨_, rfl⟩
     rw [hM, hO] at HRUN
     rw [hM] at HS
     rw [hV]
     have x15 : wr.cell? ⟨g, 15, none⟩ = some (.int .i64 s.sum) := HRUN.out.in rfl
     have x16 : wr.cell? ⟨g, 16, none⟩ = some (.int .i64 xx) := HRUN.out.in rfl
     have x17 : wr.cell? ⟨g, 17, none⟩ = some (.int .i64 s.out) := HRUN.out.in rfl
     have x18 : wr.cell? ⟨g, 18, none⟩ = some (.bool s.ov) := HRUN.out.in rfl
     have f15 := HRUN.out.free 15
     have f16 := HRUN.out.free 16
     have f17 := HRUN.out.free 17
     have f18 := HRUN.out.free 18
     have r1 := HRUN.out.put (k := 15) (v := .int .i64 0) (s' := { s with sum := 0 }) (cy' := M.cyc) (st' := M.stl) (x' := xx) (by decide) rfl rfl rfl rfl
     have r2 := r1.put (k := 16) (v := .int .i64 y) (s' := { s with sum := 0 }) (cy' := M.cyc) (st' := M.stl) (x' := y) (by decide) rfl rfl rfl rfl
     have r3 := r2.put (k := 17) (v := .int .i64 0) (s' := { s with sum := 0, out := 0 }) (cy' := M.cyc) (st' := M.stl) (x' := y) (by decide) rfl rfl rfl rfl
     have r4 := r3.put (k := 18) (v := .bool false) (s' := { s with sum := 0, out := 0, ov := false }) (cy' := M.cyc) (st' := M.stl) (x' := y) (by decide) rfl rfl rfl rfl
     have es : ({ s with sum := 0, out := 0, ov := false } : Smp) = smp0 M := by
      obtain ⟨e1, e2, e3⟩ := HS.out
      unfold smp0
      rw [← e1, ← e2, ← e3]
     rw [es] at r4
     have HR8 := Lib.hid r4
     have HB8 := Lib.hid (below_set (k := 18) (u := .bool false) (below_set (k := 17) (u := .int .i64 0) (below_set (k := 16) (u := .int .i64 y) (below_set (k := 15) (u := .int .i64 0) HC.out HRUN.out.hb) HRUN.out.hb) HRUN.out.hb) HRUN.out.hb)
     clear r1 r2 r3 r4 es hft hbk hy
     go_upto_region 24 with fail
     generalize (((wr.setCell ⟨g, 15, none⟩ (.int .i64 0)).setCell ⟨g, 16, none⟩ (.int .i64 y)).setCell ⟨g, 17, none⟩ (.int .i64 0)).setCell ⟨g, 18, none⟩ (.bool false) = w8 at HR8 HB8 ⊢
     clear x15 x16 x17 x18 f15 f16 f17 f18 hc
     have HBX : Hid (Below w4.heap.size w4 w8) := Lib.hid (by rw [HBE.out]; exact HB8.out)
     have HP8 : Hid (Box w8 w.heap.size u.lst) := Lib.hid (HP4.out.keep HBX.out)
     obtain ⟨CA, hCA⟩ : ∃ A, u.CA = A := ⟨_, rfl⟩
     have x9 : w8.cell? ⟨w.heap.size, 9, none⟩ = some (.slice CA cn u.cc) := by rw [← hCA]; exact (HP8.out.2.1 9).trans (lst_nine HCN.out)
     have HCA : Hid (InsAt w4 CA u.d.code) := Lib.hid (by rw [← hCA]; exact HP.out.2.grow HB4.out)
     clear hCA
     go_wp2_with fail
     go_loopw [82] (fun z wr => ∃ j : Nat, j ≤ cn ∧ z = .int .i64 j ∧ Hid (RunAt ⟨u17, O⟩ B wr g ga ma c1 c2 hv u M.cyc M.stl y (sampF u.d y M (u.d.code.take j))) ∧ Hid (Below B w4 wr)) (fun z _ => cn - (intOf z).toNat)
     case atStart => exact ⟨0, Nat.zero_le _, rfl, HR8, HB8⟩
     case round =>
      obtain ⟨j, hj, rfl, HRj, HBj⟩ := hrel
      have HBjk : Hid (Below w4.heap.size w4 wr) := Lib.hid (by rw [HBE.out]; exact HBj.out)
      by_cases hjl : j < cn
      ·obtain ⟨i, hi⟩ : ∃ i, u.d.code[j]? = some i := ⟨_, List.getElem?_eq_getElem (by rw [HCN.out]; exact hjl)⟩
       have HJI := Lib.hid hi
       obtain ⟨ac, rfl, hs, hbk, hr, oki⟩ := (HCA.out.grow HBjk.out) j i hi
       have HSU : Hid (suitB u.d i = true) := Lib.hid (suit_mem HV.out i (List.mem_of_getElem? hi))
       obtain ⟨kop, hkop, hk12⟩ : ∃ n : Nat, i.op = (n : Int) ∧ n < 12 := by
        have := ops12 (suit_formed HSU.out)
        exact ⟨i.op.toNat, by omega, by omega⟩
       have HSP := Lib.hid hs
       have HRR := Lib.hid hr
       have HKO := Lib.hid hkop
       have q3 : (0 : Int) ≤ (j : Int) := by omega
       have q4 : (j : Int) < (cn : Int) := by omega
       have wj : IntKind.i64.wrap ((j : Int) + 1) = ((j + 1 : Nat) : Int) := (IntWalk.i64_in _ (by omega)).trans (by omega)
       clear hi hs hbk hr oki hkop
       go_upto_region 27 with (first
        | ((with_reducible show wpList _ _ _ (Oper.mk _ (.load _ _) _ _ _ _ :: _) _ _); refine ld_insA HSP.out HRR.out rfl _ rfl rfl ?_)
        | ((with_reducible show wpList _ _ _ (Oper.mk _ (.store _ _ _) _ _ _ _ :: _) _ _); refine st_ins (w := wr.alloc (.cells Ins.zero.cells.toArray 109)) (g := wr.heap.size) (i := Ins.zero) (j := i) (Box.new rfl) rfl _ _ rfl rfl rfl ?_; intro W2 b2 p2))
       have hb2 := put_facts ((Below.refl wr.heap.size wr).alloc (Nat.le_refl _) (.cells Ins.zero.cells.toArray 109)) (Nat.le_refl _) p2
       have HR2 := Lib.hid (HRj.out.grow hb2)
       have hBi : B ≤ wr.heap.size := by have := HBj.out.size; have := HBE.out; omega
       have HB2 := Lib.hid (HBj.out.trans (hb2.mono hBi))
       have HT2 : Hid (TabAt W2 gt) := Lib.hid (Box.keep (Box.keep HT4.out HBjk.out) hb2)
       have HBI := Lib.hid b2
       clear b2 p2 hb2
       generalize wr.heap.size = gi at HBI ⊢
       refine wp_region_grow8 (fun x => Nat.blt x 7) (fun _ => false) (fun w2 => Below W2.heap.size W2 w2) (fun a b => Below a.heap.size a b) (dF 0 [.v (.slice (some ⟨gt, 0, none⟩) 12 12), .v (.pointer (some ⟨gi, 0, none⟩)), .v (.int .i64 (kop : Int)), .v (.pointer (some ⟨gt, kop, none⟩)), .v (.pointer (some ⟨gt, kop, none⟩)), .v (.func (.func (opFn kop)) #[] #[]), .v i.v]) (by kernel_rfl) (by kernel_rfl) (Below.drew (Below.refl _ _)) (fun a b h1 h2 => ⟨below_then h1 h2, fun i _ v => dF_keep h2 i v⟩) (fun w _ => Below.refl _ _) ?_ (fun j o _ _ h => by cases h) ?_
       ·refine ⟨?_, ?_, ?_, ?_, ?_, ?_, ?_, trivial⟩
        all_goals
         intro vs w5 hp hF
         have b5 := HBI.out.keep hp
         have x0 : w5.cell? ⟨gi, 0, none⟩ = some (.int .i64 (kop : Int)) := by rw [← HKO.out]; exact b5.2.1 0
         have y1 := tab_at (Box.keep HT2.out hp) hk12
         have k1 : (0 : Int) ≤ (kop : Int) := by omega
         have k2 : (kop : Int) < 12 := by omega
         have k3 : kop < 12 := hk12
         clear hp
         simp [depsB, Region.binds, dF] at hF
         simp [stL, depsB, Region.binds, Act.put, hF]
        all_goals (go_wp2_with (refine ld_ins b5 rfl _ rfl rfl ?_); exact ⟨rfl, Below.refl _ _⟩)
       intro vs w5 hp hF
       have e6 : vs 6 = i.v := hF 6 (by decide) rfl
       have e5 : vs 5 = .func (.func (opFn kop)) #[] #[] := hF 5 (by decide) rfl
       show wpList Tryd.prog _ _ [_] _ _
       simp [stL, Act.put, e5, e6]
       obtain ⟨fn, hf1, hf2, hf3⟩ := opFn_ok hk12
       have hko : i.op.toNat = kop := by rw [HKO.out]; rfl
       have HMO : MacOk u.d M := hM ▸ runM_ok HV.out (xs.take k) x.m (wordD_take HW.out k) HOK.out
       have hop := op_any (z := ⟨u17, O⟩) (b := B) (w0 := w4) (w := w5) (i := i) ⟨HR2.out.grow hp, samp_take HV.out HFT.out HMO j, HV.out, HFT.out, HSU.out, HP.out.1.grow HB4.out, HBE.out.symm, HB2.out.trans (hp.mono (by have := HB2.out.size; have := HBE.out; omega))⟩
       rw [hko] at hop
       refine wp_call1 hf1 hf2 hf3 rfl rfl rfl #[.pointer (some ⟨g, 0, none⟩), i.v] rfl hop ?_
       rintro e w9 ⟨rfl, hr9, hb9⟩
       refine ⟨_, rfl, ?_⟩
       refine wpList_nil ⟨rfl, ?_⟩
       have HR9 := Lib.hid hr9
       have HB9 := Lib.hid hb9
       clear hr9 hb9 hop e5 e6 hF hp
       simp only [Act.put]
       go_wp2_with fail
       go_roundw
       case rel => exact ⟨j + 1, by omega, by go_num, by rw [take_snoc' HJI.out, sampF_snoc]; exact HR9, HB9⟩
       case measure => simp [intOf]; omega
      ·obtain rfl : j = cn := by omega
       have et := List.take_of_length_le (l := u.d.code) (Nat.le_of_eq HCN.out)
       rw [et] at HRj
       have HMO : MacOk u.d M := hM ▸ runM_ok HV.out (xs.take k) x.m (wordD_take HW.out k) HOK.out
       obtain ⟨S, hS⟩ : ∃ S, sampF u.d y M u.d.code = S := ⟨_, rfl⟩
       have HSO : Hid (SmpOk u.d S) := Lib.hid (hS ▸ samp_all HV.out HFT.out HMO)
       rw [hS] at HRj
       have hcl : u.d.code.length ≤ 512 := by have := HCN.out; omega
       have hkl : (xs.take k).length = k := by rw [List.length_take]; have := HN.out; omega
       obtain ⟨⟨m1, m2⟩, m3, m4⟩ := runM_bnd (d := u.d) (m := x.m) (xs := xs.take k) hcl (by omega) HCY.out HST.out
       obtain ⟨⟨t1, t2⟩, t3, t4⟩ := time_in hcl
       rw [hM] at m1 m2 m3 m4
       obtain ⟨v1, v2⟩ := runV_in u.d x.m (xs.take k)
       rw [hV, hkl] at v2
       rw [hV] at v1
       obtain ⟨cy, hcy⟩ : ∃ c, M.cyc = c := ⟨_, rfl⟩
       obtain ⟨st, hst⟩ : ∃ c, M.stl = c := ⟨_, rfl⟩
       rw [hcy] at m1 m2
       rw [hst] at m3 m4
       rw [hcy, hst] at HRj
       have HEM : Hid (macN u.d y M = ⟨S.regs, S.mem, S.heads, cy + cycF u.d.code, st + stlF u.d.code⟩) := Lib.hid (by unfold macN; rw [hS, hcy, hst])
       have HEV : Hid (ovN u.d y M = if S.ov then 1 else 0) := Lib.hid (by unfold ovN; rw [hS])
       have HRM : Hid (runM u.d x.m (xs.take (k + 1)) = ⟨S.regs, S.mem, S.heads, cy + cycF u.d.code, st + stlF u.d.code⟩) := Lib.hid (by rw [take_snoc' HY.out, runM_snoc, hM]; exact HEM.out)
       have HRO : Hid (runO u.d x.m (xs.take (k + 1)) = O ++ [S.out]) := Lib.hid (by rw [take_snoc' HY.out, runO_snoc, hM, hO, hS])
       have HRV : Hid (runV u.d x.m (xs.take (k + 1)) = V + if S.ov then 1 else 0) := Lib.hid (by rw [take_snoc' HY.out, runV_snoc, hM, hV]; rw [HEV.out])
       obtain ⟨q17, e17, l17⟩ := HCq.out
       have l18 := own_lt HRj.out.outs q17 e17
       have HOW : Hid (Own C wr u17 O) := Lib.hid (own_raise HRj.out.outs (fun q e => by have := Option.some.inj (e17.symm.trans e); omega))
       have hol : O.length < 100000000 := by rw [← hO, runO_len, hkl]; omega
       have hbase : C ≤ wr.heap.size := by omega
       have wc2 : IntKind.i64.wrap (cy + cycF u.d.code) = cy + cycF u.d.code := IntWalk.i64_in _ (by omega)
       have ws2 : IntKind.i64.wrap (st + stlF u.d.code) = st + stlF u.d.code := IntWalk.i64_in _ (by omega)
       have wV : IntKind.i64.wrap (V + 1) = V + 1 := IntWalk.i64_in _ (by omega)
       obtain ⟨so, hso⟩ : ∃ o, S.out = o := ⟨_, rfl⟩
       have hsoI : I64 so := hso ▸ HSO.out.out
       have x17 : wr.cell? ⟨g, 17, none⟩ = some (.int .i64 so) := hso ▸ HRj.out.in rfl
       clear hS hcy hst et hkl m1 m2 m3 m4 t1 t2 t3 t4 v1 v2 e17 l17 l18 hM hV hO HMO
       go_upto_region 30 with (at_builtin; refine app_int wr rfl _ _ rfl C HOW.out rfl rfl hol hbase hsoI ?_; intro va wa hoa hba)
       have HRa : Hid (RunAt ⟨va, O ++ [so]⟩ B wa g ga ma c1 c2 hv u cy st y S) := Lib.hid (HRj.out.under hba HLT.out.1 HLT.out.2.1 HLT.out.2.2.1 HLT.out.2.2.2 (hoa.base HBB.out) (own_ge hoa))
       have HQa : Hid (∃ q, va.ownBlock = some q ∧ C ≤ q) := by
        obtain ⟨q, c, e⟩ := own_some hoa (by simp)
        exact Lib.hid ⟨q, by rw [e]; rfl, own_ge hoa q (by rw [e]; rfl)⟩
       have HCa : Hid (Below B w4 wa) := Lib.hid (HBj.out.trans (hba.mono HBB.out))
       clear x17 hoa hba HOW hsoI hol hbase HRj HBj HBjk
       obtain ⟨b, hb⟩ : ∃ b, S.ov = b := ⟨_, rfl⟩
       have x18 : wa.cell? ⟨g, 18, none⟩ = some (.bool b) := hb ▸ HRa.out.in rfl
       have x13 : wa.cell? ⟨g, 13, none⟩ = some (.int .i64 cy) := HRa.out.in rfl
       have x14 : wa.cell? ⟨g, 14, none⟩ = some (.int .i64 st) := HRa.out.in rfl
       have f13 := HRa.out.free 13
       have f14 := HRa.out.free 14
       have r1 := HRa.out.put (k := 13) (v := .int .i64 (cy + cycF u.d.code)) (s' := S) (cy' := cy + cycF u.d.code) (st' := st) (x' := y) (by decide) rfl rfl rfl rfl
       have r2 := r1.put (k := 14) (v := .int .i64 (st + stlF u.d.code)) (s' := S) (cy' := cy + cycF u.d.code) (st' := st + stlF u.d.code) (x' := y) (by decide) rfl rfl rfl rfl
       have HRz := Lib.hid r2
       have HBz := Lib.hid (below_set (k := 14) (u := .int .i64 (st + stlF u.d.code)) (below_set (k := 13) (u := .int .i64 (cy + cycF u.d.code)) HCa.out HRa.out.hb) HRa.out.hb)
       clear r1 r2
       rw [hso] at HRO
       rw [hb] at HRV
       clear hso hb
       cases b
       ·go_wp2_with fail
        go_roundw
        case rel => exact ⟨k + 1, y, S, by omega, by rw [HRV.out]; simp, by go_num, by rw [HRO.out, HRM.out]; exact HRz, by rw [HRM.out]; exact Lib.hid ⟨rfl, rfl, rfl⟩, HQa, HBz⟩
        case measure => simp [intOf]; omega
       ·go_wp2_with fail
        go_roundw
        case rel => exact ⟨k + 1, y, S, by omega, by rw [HRV.out]; simp, by go_num, by rw [HRO.out, HRM.out]; exact HRz, by rw [HRM.out]; exact Lib.hid ⟨rfl, rfl, rfl⟩, HQa, HBz⟩
        case measure => simp [intOf]; omega
    ·obtain rfl : k = xn := by omega
     have ht := List.take_of_length_le (l := xs) (Nat.le_of_eq HN.out)
     rw [ht] at HRUN HS
     rw [ht]
     obtain ⟨A4, c4, e4, -⟩ := own_form HRUN.out.heads.1
     subst e4
     have HRB : Hid (Box wr (w.heap.size + 1 + 1) zeros5) := Lib.hid (HR4.out.keep HCk.out)
     have hgB : w.heap.size + 2 < B := by have := HR4.out.1; have := HBE.out; omega
     have HGB := Lib.hid hgB
     clear hgB
     obtain ⟨dsc, hd1, hd2⟩ := row_mac
     have hL5 : ∀ (j : Nat) (v : Value), ([.slice (some ⟨ga, 0, none⟩) 8 c1, .slice (some ⟨ma, 0, none⟩) 128 c2, .slice A4 s.heads.length c4, .int .i64 (runM u.d x.m xs).cyc, .int .i64 (runM u.d x.m xs).stl] : List Value)[j]? = some v → (runL u ga ma c1 c2 (.slice A4 s.heads.length c4) (runM u.d x.m xs).cyc (runM u.d x.m xs).stl xx s)[10 + j]? = some v := fun j v h => match j, h with
      | 0, h => h
      | 1, h => h
      | 2, h => h
      | 3, h => h
      | 4, h => h
      | n + 5, h => by simp at h
     have HL5 := Lib.hid hL5
     obtain ⟨VV, hVV⟩ : ∃ v, runV u.d x.m xs = v := ⟨_, rfl⟩
     obtain ⟨MV, hMV⟩ : ∃ v : List Value, [.slice (some ⟨ga, 0, none⟩) 8 c1, .slice (some ⟨ma, 0, none⟩) 128 c2, .slice A4 s.heads.length c4, .int .i64 (runM u.d x.m xs).cyc, .int .i64 (runM u.d x.m xs).stl] = v := ⟨_, rfl⟩
     have HVV := Lib.hid hVV
     have HMV := Lib.hid hMV
     rw [hVV]
     rw [hMV] at HL5
     have HM5 : Hid (MV.length = 5 ∧ MV.all (·.oneCell') = true) := by rw [← hMV]; exact Lib.hid ⟨rfl, rfl⟩
     clear hL5 hVV hMV
     go_upto_region 35 with fail
     refine wp_region_grow8 (fun x => Nat.blt x 5) (fun x => Nat.beq x 3) (fun w2 => Below wr.heap.size wr w2) (fun a b => Below a.heap.size a b) (dF 0 [.v u17, .v (.pointer (some ⟨g, 10, none⟩)), .v (.agg MV.toArray), .v (.int .i64 VV), .v u17]) (by kernel_rfl) (by kernel_rfl) (Below.drew (Below.refl _ _)) (fun a b h1 h2 => ⟨below_then h1 h2, fun i _ v => dF_keep h2 i v⟩) (fun w _ => Below.refl _ _) ?_ ?_ ?_
     ·refine ⟨?_, ?_, ?_, ?_, ?_, trivial⟩
      all_goals
       intro vs w5 hp hF
       have r5 := HRUN.out.grow hp
       clear hp
       simp [depsB, Region.binds, dF] at hF
       simp [stL, depsB, Region.binds, Act.put, hF]
      all_goals (go_wp2_with ((with_reducible show wpList _ _ _ (Oper.mk _ (.load _ _) _ _ _ _ :: _) _ _); refine wp_ld rfl 32 _ rfl g 10 rfl r5.box MV HL5.out dsc hd1 hd2 (size_mac.trans (congrArg some HM5.out.1.symm)) ?_); exact ⟨rfl, Below.refl _ _⟩)
     ·intro j o ho _ hl
      obtain rfl : j = 3 := by simpa using hl
      injection ho with ho
      subst ho
      intro vs w hC hF
      exact ⟨.int .i64 VV, fun w' => by simp [execOp, stL, depsB, Region.binds, go_sem, Act.put], rfl⟩
     intro vs w5 hp hF
     have e2 : vs 2 = .agg MV.toArray := hF 2 (by decide) rfl
     have e3 : vs 3 = .int .i64 VV := hF 3 (by decide) rfl
     have e4 : vs 4 = u17 := hF 4 (by decide) rfl
     show wpList Tryd.prog _ _ [_, _, _] _ _
     simp [stL, Act.put, e2, e3, e4]
     clear hF e2 e3 e4
     refine st_mac (HRB.out.keep hp) rfl HM5.out.1 HM5.out.2 rfl _ _ rfl rfl rfl ?_
     intro w9 hb9 hg9
     have HR9 := Lib.hid (HRUN.out.grow hp)
     have HB9 := Lib.hid (below_then HBk.out hp)
     clear hp
     simp only [Act.put]
     go_wp2_with fail
     refine bodyPost_ret (resTCTT rfl _ _ w9 (g := w.heap.size + 2) (v := .agg MV.toArray) rfl (res_box _ hb9 dsc hd1 hd2 (size_mac.trans (congrArg some HM5.out.1.symm)))) rfl ?_
     have hgB := HGB.out
     obtain ⟨es1, es2, es3⟩ := HS.out
     have kk : ∀ {v : Value} {l : List Int}, Own B w5 v l → Own w.heap.size w9 v l := fun {v l} h => Own.base ⟨own_setsI h.1 hg9 (by omega), h.2⟩ (by omega)
     have k1 := kk HR9.out.regs
     have k2 := kk HR9.out.mem
     have k3 : Own w.heap.size w9 (.slice A4 s.heads.length c4) (runM u.d x.m xs).heads := by
      have h := kk HR9.out.heads
      rw [es3] at h ⊢
      exact h
     rw [es1] at k1
     rw [es2] at k2
     refine ⟨u17, _, _, _, ?_, kk HR9.out.outs, ⟨k1, k2, k3, fun q e => ⟨fun e' => HR9.out.n3 (by have h1 := Option.some.inj (show some ga = some q from e); have h2 := Option.some.inj (show some ma = some q from e'); omega), fun e' => HR9.out.n5 (by have h1 := Option.some.inj (show some ga = some q from e); rw [h1]; exact e')⟩, fun q e e' => HR9.out.n6 (by have h1 := Option.some.inj (show some ma = some q from e); rw [h1]; exact e')⟩, grown_toI HB9.out hg9 (by omega)⟩
     rw [← HMV.out, ← HVV.out]; rfl
end Go.Proofs.YtdiflpbioohddaaDoor
