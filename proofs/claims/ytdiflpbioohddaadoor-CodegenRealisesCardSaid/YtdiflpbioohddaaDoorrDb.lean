/- The law of codegen: computes. -/
import Derived.Test.YtdiflpbioohddaaDoorrS31toH1
import Derived.Test.YtdiflpbioohddaaDoorrS28toCx
import Derived.Test.YtdiflpbioohddaaDoorrS25
import Derived.Test.YtdiflpbioohddaaDoorrJ
import Derived.Test.YtdiflpbioohddaaDoorrUtoU3
import Derived.Test.YtdiflpbioohddaaDoorrE1toI0
import Derived.Test.YtdiflpbioohddaaDoorrTitoY6
import Derived.Test.YtdiflpbioohddaaDoorrS22toS14
import Derived.Test.YtdiflpbioohddaaDoorrH3
set_option linter.unusedVariables false
set_option linter.unusedSimpArgs false
namespace Go.Proofs.YtdiflpbioohddaaDoor
open Go.RowKit
theorem wpList_unguard {P : Program} {ops : Array Oper} {Q : Exit → Act → World → Prop} {rest : List Oper} {a : Act} {w : World} {d : Option Tmp} {op : Op} {t : TypeId} {p : String} {af : Array Edge} {g : Option (Nat × Bool)}
    (hw : Region.wanted (Oper.mk d op t p af g) (yielded ops a.tmps) = true) (h : wpList P ops Q (Oper.mk d op t p af none :: rest) a w) : wpList P ops Q (Oper.mk d op t p af g :: rest) a w := by
  unfold wpList at h ⊢
  rw [if_pos hw]
  rw [if_pos (by rfl)] at h
  exact h
def RetRunQ (w : World) (d : PrgD) (m : Mac) (xs : List Int) (e : Ending) (w' : World) : Prop := ∃ (A : Option Addr) (c : Nat) (z : MacA), z.m = runM d m xs ∧ e = .returned (.tuple #[.slice A (runO d m xs).length c, z.v, .int .i64 (runV d m xs), .int .i64 0]) ∧ Ints w' A (runO d m xs) ∧ MacAt w' z ∧ z.m.mem.length ≤ z.mc ∧ Below w.heap.size w w'
theorem RetRunS.toQ {w : World} {d : PrgD} {m : Mac} {xs : List Int} {e : Ending} {w' : World} (h : RetRunS w d m xs e w') : RetRunQ w d m xs e w' := by
  obtain ⟨vo, vg, vm, vh, e1, ho, hm, hb⟩ := h
  obtain ⟨A, c, rfl, -⟩ := own_form ho.1
  obtain ⟨A1, c1, rfl, -⟩ := own_form hm.regs.1
  obtain ⟨A2, c2, rfl, hc2⟩ := own_form hm.mem.1
  obtain ⟨A3, c3, rfl, -⟩ := own_form hm.heads.1
  exact ⟨A, c, ⟨runM d m xs, A1, A2, A3, c1, c2, c3⟩, rfl, e1, ho.ints, ⟨hm.regs.ints, hm.mem.ints, hm.heads.ints⟩, hc2, hb⟩
theorem sm_RunQ (u : PrgA) (x : MacA) (XA : Option Addr) (xn xc : Nat) (xs : List Int) (w : World) (hf : FormsAt w) (hp : PrgAt w u) (hx : MacAt w x) (hi : Ints w XA xs) (hm : macB u.d x.m = true) (hw : wordD u.d xs = true) (hn : xs.length = xn) (h4 : xn ≤ 4096) :
    Calls Tryd.prog 25 #[.agg u.lst.toArray, .agg x.lst.toArray, .slice XA xn xc] w (RetRunQ w u.d x.m xs) := (sm_Run u x XA xn xc xs w hf hp hx hi hm hw hn h4).mono fun _ _ h => h.toQ
def cmF (b g : Nat) (V X Y : Value) (lw lx : List Int) (sn im : Nat) : Nat → Value → World → Prop
  | 0, v, _ | 6, v, _ => v = .pointer (some ⟨g, 0, none⟩)
  | 1, v, _ | 7, v, _ => v = V
  | 2, v, _ => v = X
  | 3, v, _ => v = .pointer (some ⟨g, 8, none⟩)
  | 4, v, _ => v = .int .i64 (sn : Int)
  | 5, v, w => ∃ A c, v = .slice A lw.length c ∧ Ints w A lw
  | 8, v, _ | 9, v, _ => v = Y
  | 10, v, _ => v = .int .i64 (im : Int)
  | 11, v, w => ∃ A c, v = .slice A lx.length c ∧ Ints w A lx
  | _, _, _ => True
theorem cmF_keep {b g : Nat} {V X Y : Value} {lw lx : List Int} {sn im : Nat} {w w' : World} (h : Below w.heap.size w w') : ∀ i v, cmF b g V X Y lw lx sn im i v w → cmF b g V X Y lw lx sn im i v w'
  | 0, _, e | 1, _, e | 2, _, e | 3, _, e | 4, _, e | 6, _, e | 7, _, e | 8, _, e | 9, _, e | 10, _, e => e
  | 5, _, ⟨A, c, e, hi⟩ | 11, _, ⟨A, c, e, hi⟩ => ⟨A, c, e, hi.grow h⟩
  | _ + 12, _, _ => trivial
set_option maxRecDepth 100000 in
set_option maxHeartbeats 16000000 in
theorem law_computes (n : NetD) (NA XA BA IA : Option Addr) (nc xc bn bc im ic : Nat) (bl il : List Int) (w : World) (hf : FormsAt w) (hn : NetAt w n NA XA) (hok : n.ok = true) (hv : validB n.prg = true) (hB : Ints w BA bl) (hbn : bl.length = bn) (hI : Ints w IA il) (him : il.length = im) (h25 : im ≤ 25) :
    Calls Tryd.prog 20 #[.agg (n.lst NA nc XA xc).toArray, .slice BA bn bc, .slice IA im ic] w (BoolBw w true) := by
  obtain ⟨-, -, ⟨p2, p3⟩, -, p5, -, -, -, -⟩ := netB_parts hok
  obtain ⟨sn, hsn⟩ : ∃ k, n.nx.length = k := ⟨_, rfl⟩
  rw [hsn] at p5
  obtain ⟨lw, hlw⟩ : ∃ l, wordsF n.d0 n.d1 n.d2 n.d3 bl sn = l := ⟨_, rfl⟩
  obtain ⟨lx, hlx⟩ : ∃ l, wordsF n.d0 n.d1 n.d2 n.d3 il im = l := ⟨_, rfl⟩
  have hll : lw.length = sn := by rw [← hlw, wordsF_length]
  have hlxl : lx.length = im := by rw [← hlx, wordsF_length]
  have hfw : n.fit lw = true := by rw [← hlw]; exact fit_words hok
  have hfx : n.fit lx = true := by rw [← hlx]; exact fit_words hok
  have hst : n.state lw = true := state_iff.2 ⟨by omega, List.all_eq_true.1 hfw⟩
  have HC := Lib.hid (cmp_facts hok hv hst hfx (by omega))
  have CW : Hid (∀ w1, Below w.heap.size w w1 → Calls Tryd.prog 19 #[wordV n.d0 n.d1 n.d2 n.d3, .slice BA bn bc, .int .i64 sn] w1 fun e w' => ∃ A c, e = .returned (.slice A lw.length c) ∧ Ints w' A lw ∧ Below w1.heap.size w1 w') := fun w1 hb => by
    have := wd_Words n.d0 n.d1 n.d2 n.d3 BA bl bc sn w1 (by omega) (hB.grow hb)
    rw [hbn, hlw] at this
    refine this.mono ?_
    rintro e w' ⟨v, rfl, ho, hb⟩
    obtain ⟨A, c, rfl, -, hi⟩ := ho.form
    exact ⟨A, c, rfl, hi, hb⟩
  have CX : Hid (∀ w1, Below w.heap.size w w1 → Calls Tryd.prog 19 #[wordV n.d0 n.d1 n.d2 n.d3, .slice IA im ic, .int .i64 im] w1 fun e w' => ∃ A c, e = .returned (.slice A lx.length c) ∧ Ints w' A lx ∧ Below w1.heap.size w1 w') := fun w1 hb => by
    have := wd_Words n.d0 n.d1 n.d2 n.d3 IA il ic im w1 (by omega) (hI.grow hb)
    rw [him, hlx] at this
    refine this.mono ?_
    rintro e w' ⟨v, rfl, ho, hb⟩
    obtain ⟨A, c, rfl, -, hi⟩ := ho.form
    exact ⟨A, c, rfl, hi, hb⟩
  have CC : Hid (∀ w1, Below w.heap.size w w1 → Calls Tryd.prog 10 #[.agg (n.lst NA nc XA xc).toArray] w1 (RetPrgE w1 n.prg 0)) := fun w1 hb => cg_Compile_ok n NA XA nc xc w1 (hf.grow hb) (hn.grow hb) hok hv
  have CE : Hid (∀ w1 A c, Below w.heap.size w w1 → Ints w1 A lw → Calls Tryd.prog 11 #[.agg (n.lst NA nc XA xc).toArray, .slice A lw.length c] w1 (RetMacC w1 (embM lw) 0)) := fun w1 A c hb hi => by
    have h := cg_Embed_ok n NA XA A nc xc lw.length c lw w1 (hf.grow hb) (hn.grow hb) hok hv hi rfl (by omega)
    refine h.mono fun e w' h => ?_
    unfold RetEmb at h
    rw [HC.out.emb, if_pos rfl] at h
    exact h
  obtain ⟨O, hO⟩ : ∃ O, (runD n lw).outS lx lx.length = O := ⟨_, rfl⟩
  obtain ⟨SS, hSS⟩ : ∃ S, (runD n lw).stS lx lx.length = S := ⟨_, rfl⟩
  obtain ⟨K, hK⟩ : ∃ K, n.cntS lw lx lx.length = K := ⟨_, rfl⟩
  have hOL : O.length ≤ 1000 := by rw [← hO, ← HC.out.outs, runO_len]; omega
  have hSL : SS.length ≤ 1000 := by
    have h := HC.out.ex1.1
    rw [hSS] at h
    rw [← h]
    unfold extL
    rw [HC.out.macR, if_pos rfl, List.length_take]; omega
  have CR : Hid (∀ w1 A B c b, Below w.heap.size w w1 → Ints w1 A lw → Ints w1 B lx → Calls Tryd.prog 21 #[.agg (n.lst NA nc XA xc).toArray, .slice A lw.length c, .slice B lx.length b] w1 (RetRunC w1 O SS K)) := fun w1 A B c b hb hi hj => by
    have h := nw_RunC n NA XA nc xc lw A lw.length c lx B lx.length b w1 (hn.grow hb) hok hst rfl hi hj hfx rfl (by omega)
    rw [hO, hSS, hK] at h
    exact h
  have hmlE : MacLen (embM lw) := ⟨by show 8 ≤ _; omega, by rw [(emb_mem (s := lw) rfl (by omega)).1]; omega, by show 0 ≤ _; omega⟩
  have hmlR : MacLen (runM n.prg (embM lw) lx) := by
    obtain ⟨-, h, -⟩ := macB_parts HC.out.macR
    exact ⟨by rw [h.rl]; omega, by rw [h.ml]; omega, by rw [h.hl]; show 0 ≤ _; omega⟩
  have CT0 : Hid (∀ w1 (x : MacA), x.m = embM lw → Below w.heap.size w w1 → MacAt w1 x → x.m.mem.length ≤ x.mc → Calls Tryd.prog 12 #[.agg (n.lst NA nc XA xc).toArray, .agg x.lst.toArray] w1 (RetIntE w1 lw 0)) := fun w1 x hm hb hx hc => by
    have h := cg_Extract_ok n NA XA nc xc x w1 (hf.grow hb) (hn.grow hb) hok hv hx (by rw [hm]; exact hmlE) hc
    unfold RetExt at h
    rw [hm, HC.out.ex0.1, HC.out.ex0.2] at h
    exact h
  have CT1 : Hid (∀ w1 (x : MacA), x.m = runM n.prg (embM lw) lx → Below w.heap.size w w1 → MacAt w1 x → x.m.mem.length ≤ x.mc → Calls Tryd.prog 12 #[.agg (n.lst NA nc XA xc).toArray, .agg x.lst.toArray] w1 (RetIntE w1 SS 0)) := fun w1 x hm hb hx hc => by
    have h := cg_Extract_ok n NA XA nc xc x w1 (hf.grow hb) (hn.grow hb) hok hv hx (by rw [hm]; exact hmlR) hc
    unfold RetExt at h
    rw [hm, HC.out.ex1.1, HC.out.ex1.2, hSS] at h
    exact h
  have CV : Hid (∀ w1 (u : PrgA), u.d = n.prg → PrgAt w1 u → Calls Tryd.prog 44 #[.agg u.lst.toArray] w1 fun e w' => e = .returned (.bool true) ∧ Below w1.heap.size w1 w') := fun w1 u hu hp => by
    have h512 := (valid_parts hv).2.2.1.2
    exact r38_Valid u w1 hp (by rw [hu]; show 0 ≤ _; omega) (by rw [hu]; omega) (by rw [hu]; exact hv)
  have CM : Hid (∀ w1 (u : PrgA) (x : MacA), u.d = n.prg → x.m = embM lw → PrgAt w1 u → MacAt w1 x → Calls Tryd.prog 16 #[.agg u.lst.toArray, .agg x.lst.toArray] w1 fun e w' => e = .returned (.bool true) ∧ Below w1.heap.size w1 w') := fun w1 u x hu hx hp ha => by
    have h512 := (valid_parts hv).2.2.1.2
    have hml := (emb_mem (s := lw) rfl (by omega)).1
    exact r39_Valid u x w1 hp ha (by rw [hu]; show 0 ≤ _; omega) (by rw [hu]; omega) (by rw [hx]; exact ⟨by show 8 ≤ _; omega, by rw [hml]; omega, by show 0 ≤ _; omega⟩) (by rw [hu, hx]; exact HC.out.mac)
  have CS : Hid (∀ w1 (u : PrgA) (x : MacA) B b, u.d = n.prg → x.m = embM lw → Below w.heap.size w w1 → PrgAt w1 u → MacAt w1 x → Ints w1 B lx → Calls Tryd.prog 25 #[.agg u.lst.toArray, .agg x.lst.toArray, .slice B lx.length b] w1 fun e w' => ∃ (A : Option Addr) (c : Nat) (z : MacA), z.m = runM n.prg (embM lw) lx ∧ e = .returned (.tuple #[.slice A O.length c, .agg z.lst.toArray, .int .i64 K, .int .i64 0]) ∧ Ints w' A O ∧ MacAt w' z ∧ z.m.mem.length ≤ z.mc ∧ Below w1.heap.size w1 w') := fun w1 u x B b hu hx hb hp ha hi => by
    have h := sm_RunQ u x B lx.length b lx w1 (hf.grow hb) hp ha hi (by rw [hu, hx]; exact HC.out.mac) (by rw [hu]; exact HC.out.word) rfl (by omega)
    rw [hu, hx] at h
    unfold RetRunQ at h
    rw [HC.out.outs, HC.out.over, hO, hK] at h
    exact h
  have HLL : Hid ((n.lst NA nc XA xc).length = 12) := Lib.hid rfl
  have HLE : Hid (∀ W, Box W w.heap.size (n.lst NA nc XA xc) → (W.cell? ⟨w.heap.size, 0, none⟩ = some (.int .i64 n.d0) ∧ W.cell? ⟨w.heap.size, 1, none⟩ = some (.int .i64 n.d1) ∧ W.cell? ⟨w.heap.size, 2, none⟩ = some (.int .i64 n.d2) ∧ W.cell? ⟨w.heap.size, 3, none⟩ = some (.int .i64 n.d3)) ∧
      (W.cell? ⟨w.heap.size, 4, none⟩ = some (.int .i64 n.c0) ∧ W.cell? ⟨w.heap.size, 5, none⟩ = some (.int .i64 n.c1) ∧ W.cell? ⟨w.heap.size, 6, none⟩ = some (.int .i64 n.c2) ∧ W.cell? ⟨w.heap.size, 7, none⟩ = some (.int .i64 n.c3)) ∧ W.cell? ⟨w.heap.size, 8, none⟩ = some (.int .i64 sn)) := Lib.hid fun W h => ⟨⟨h.2.1 0, h.2.1 1, h.2.1 2, h.2.1 3⟩, ⟨h.2.1 4, h.2.1 5, h.2.1 6, h.2.1 7⟩, by rw [← p5]; exact h.2.1 8⟩
  have HPE : Hid (∀ W g (u : PrgA), u.d = n.prg → Box W g u.lst → (W.cell? ⟨g, 0, none⟩ = some (.int .i64 n.d0) ∧ W.cell? ⟨g, 1, none⟩ = some (.int .i64 n.d1) ∧ W.cell? ⟨g, 2, none⟩ = some (.int .i64 n.d2) ∧ W.cell? ⟨g, 3, none⟩ = some (.int .i64 n.d3)) ∧
      (W.cell? ⟨g, 4, none⟩ = some (.int .i64 n.c0) ∧ W.cell? ⟨g, 5, none⟩ = some (.int .i64 n.c1) ∧ W.cell? ⟨g, 6, none⟩ = some (.int .i64 n.c2) ∧ W.cell? ⟨g, 7, none⟩ = some (.int .i64 n.c3))) := Lib.hid fun W g u hu h => by
    obtain ⟨d, RA, CA, rc, cc⟩ := u
    simp only at hu
    subst hu
    exact ⟨⟨h.2.1 0, h.2.1 1, h.2.1 2, h.2.1 3⟩, ⟨h.2.1 4, h.2.1 5, h.2.1 6, h.2.1 7⟩⟩
  have HLW := Lib.hid hll
  have HLX := Lib.hid hlxl
  have HS64 : Hid (sn ≤ 64) := Lib.hid (by omega)
  have HOL := Lib.hid hOL
  have HSL := Lib.hid hSL
  generalize n.lst NA nc XA xc = L at CC CE CR CT0 CT1 HLL HLE ⊢
  clear hf hn hok hv hB hbn hI him p2 p3 p5 hsn hlw hlx hll hlxl hfw hfx hst hO hSS hK hOL hSL hmlE hmlR
  go_enter Tryd.func20, Tryd.ntmps20
  go_upto_region 1 with fail
  have bn0 : Box (w.alloc (.cells L.toArray 27)) w.heap.size L := Box.new rfl
  have hb0 : Below w.heap.size w (w.alloc (.cells L.toArray 27)) := (Below.refl _ _).alloc (Nat.le_refl _) _
  generalize w.alloc (.cells L.toArray 27) = W1 at bn0 hb0 ⊢
  have BN1 := Lib.hid bn0
  have HW1 := Lib.hid hb0
  clear bn0 hb0
  refine wp_region_grow2 (fun i => Nat.blt i 12) (fun _ => false) (fun w2 => Below W1.heap.size W1 w2) (fun a b => Below a.heap.size a b) (cmF W1.heap.size w.heap.size (wordV n.d0 n.d1 n.d2 n.d3) (.slice BA bn bc) (.slice IA im ic) lw lx sn im) (by kernel_rfl) (by kernel_rfl) (Below.refl _ _).drew (fun a b h1 h2 => ⟨below_then h1 h2, fun i _ v => cmF_keep h2 i v⟩) (fun _ _ => Below.refl _ _) ?_ (fun _ _ _ _ h => by cases h) ?_
  · refine ⟨?_, ?_, ?_, ?_, ?_, ?_, ?_, ?_, ?_, ?_, ?_, ?_, trivial⟩
    all_goals
      intro vs w2 hp hF
      have HP := Lib.hid hp
      obtain ⟨⟨z0, z1, z2, z3⟩, -, z8⟩ := HLE.out _ (BN1.out.keep hp)
      clear hp
      simp [depsB, Region.binds, cmF] at hF
      simp [stL, depsB, Region.binds, Act.put, hF]
    all_goals try (go_wp2_with fail; exact ⟨rfl, Below.refl _ _⟩)
    · go_wp2_with fail
      refine (CW.out _ (below_then HW1.out HP.out)).mono ?_
      rintro e2 w3 ⟨A, c, rfl, hi, hb3⟩
      go_wp2_with fail
      exact ⟨A, c, rfl, hi⟩
    · go_wp2_with fail
      refine (CX.out _ (below_then HW1.out HP.out)).mono ?_
      rintro e2 w3 ⟨A, c, rfl, hi, hb3⟩
      go_wp2_with fail
      exact ⟨A, c, rfl, hi⟩
  intro vs w2 hp hF
  obtain ⟨WA, wc, e5, hi5⟩ := hF 5 (by decide) rfl
  obtain ⟨YA, yc, e11, hi11⟩ := hF 11 (by decide) rfl
  show wpList Tryd.prog _ _ [_, _] _ _
  simp [stL, Act.put, e5, e11]
  generalize vs 0 = x10
  generalize vs 1 = x11
  generalize vs 2 = x12
  generalize vs 3 = x13
  generalize vs 4 = x14
  generalize vs 6 = x16
  generalize vs 7 = x17
  generalize vs 8 = x18
  generalize vs 9 = x19
  generalize vs 10 = x110
  have HW2 := Lib.hid (below_then HW1.out hp)
  have BN2 := Lib.hid (BN1.out.keep hp)
  have HIW := Lib.hid hi5
  have HIX := Lib.hid hi11
  clear hF e5 e11 hi5 hi11 hp BN1 HW1 CW CX
  go_upto_region 2 with fail
  go_upto_region 3 with (first
    | ((with_reducible show wpList _ _ _ (Oper.mk _ (.load 27 _) _ _ _ _ :: _) _ _); refine ld_netB1 BN2.out (by simpa using HLL.out) rfl _ rfl rfl ?_)
    | (go_at_call 10; (with_reducible refine (CC.out _ HW2.out).mono ?_); rintro e3 w3 ⟨u, hud, rfl, hpu, hb3⟩; have HB3 := Lib.hid hb3; have HUD := Lib.hid hud; have HPU := Lib.hid hpu; clear hb3 hpu hud)
    | ((with_reducible show wpList _ _ _ (Oper.mk none (.store 41 _ _) _ _ _ _ :: _) _ _); refine st_prgB (M := zeros10) (Box.new rfl) rfl (L := u.lst) rfl rfl rfl _ _ rfl rfl rfl ?_; intro w4 hb4 hg4; have BP4 := Lib.hid hb4; have HG4 := Lib.hid hg4; clear hg4 hb4))
  have hba : Below w3.heap.size w3 w4 := grown_to ((Below.refl w3.heap.size w3).alloc (Nat.le_refl _) _) HG4.out (Nat.le_refl _)
  have HW4 := Lib.hid (below_then (below_then HW2.out HB3.out) hba)
  have BN4 := Lib.hid ((BN2.out.keep HB3.out).keep hba)
  have HPU4 := Lib.hid (HPU.out.grow hba)
  have HIW4 := Lib.hid ((HIW.out.grow HB3.out).grow hba)
  have HIX4 := Lib.hid ((HIX.out.grow HB3.out).grow hba)
  obtain ⟨gP, hgP⟩ : ∃ g, g = w3.heap.size := ⟨_, rfl⟩
  rw [← hgP] at BP4 ⊢
  clear hba HG4 HB3 BN2 HPU HIW HIX HW2 CC hgP
  go_upto_region 4 with (first
    | ((with_reducible show wpList _ _ _ (Oper.mk _ (.load 27 _) _ _ _ _ :: _) _ _); refine ld_netB1 BN4.out (by simpa using HLL.out) rfl _ rfl rfl ?_)
    | (go_at_call 11; (with_reducible refine (CE.out _ _ _ HW4.out HIW4.out).mono ?_); rintro e5 w5 ⟨x, hxm, rfl, hxa, hxc, hb5⟩; have HB5 := Lib.hid hb5; have HXM := Lib.hid hxm; have HXA := Lib.hid hxa; have HXC := Lib.hid hxc; clear hb5 hxm hxa hxc)
    | ((with_reducible show wpList _ _ _ (Oper.mk none (.store 32 _ _) _ _ _ _ :: _) _ _); refine st_mac (M := zeros5) (Box.new rfl) rfl (L := x.lst) rfl rfl rfl _ _ rfl rfl rfl ?_; intro w6 hb6 hg6; have BM6 := Lib.hid hb6; have HG6 := Lib.hid hg6; clear hg6 hb6))
  have hba : Below w5.heap.size w5 w6 := grown_to ((Below.refl w5.heap.size w5).alloc (Nat.le_refl _) _) HG6.out (Nat.le_refl _)
  have HW6 := Lib.hid (below_then (below_then HW4.out HB5.out) hba)
  have BN6 := Lib.hid ((BN4.out.keep HB5.out).keep hba)
  have BP6 := Lib.hid ((BP4.out.keep HB5.out).keep hba)
  have HPU6 := Lib.hid ((HPU4.out.grow HB5.out).grow hba)
  have HIW6 := Lib.hid ((HIW4.out.grow HB5.out).grow hba)
  have HIX6 := Lib.hid ((HIX4.out.grow HB5.out).grow hba)
  have HXA6 := Lib.hid (HXA.out.grow hba)
  obtain ⟨gM, hgM⟩ : ∃ g, g = w5.heap.size := ⟨_, rfl⟩
  rw [← hgM] at BM6 ⊢
  clear hba HG6 HB5 BN4 BP4 HPU4 HIW4 HIX4 HXA HW4 CE hgM
  go_upto_region 6 with (first
    | (go_at_call 44; (with_reducible refine (CV.out _ u HUD.out HPU6.out).mono ?_); rintro e7 w7 ⟨rfl, hb7⟩; have HB7 := Lib.hid hb7; clear hb7; obtain ⟨⟨z0, z1, z2, z3⟩, ⟨z4, z5, z6, z7⟩, z8⟩ := HLE.out _ (BN6.out.keep HB7.out); obtain ⟨⟨y0, y1, y2, y3⟩, ⟨y4, y5, y6, y7⟩⟩ := HPE.out _ _ u HUD.out (BP6.out.keep HB7.out))
    | (go_at_call 16; (with_reducible refine (CM.out _ u x HUD.out HXM.out (HPU6.out.grow HB7.out) (HXA6.out.grow HB7.out)).mono ?_); rintro e8 w8 ⟨rfl, hb8⟩; have HB8 := Lib.hid hb8; clear hb8)
    | ((with_reducible show wpList _ _ _ (Oper.mk _ (.load 41 _) _ _ _ _ :: _) _ _); refine wpList_unguard (by kernel_rfl) ?_; first | refine ld_prg (BP6.out.keep HB7.out) (lst_ten u) rfl _ rfl rfl ?_ | refine ld_prg BP6.out (lst_ten u) rfl _ rfl rfl ?_)
    | ((with_reducible show wpList _ _ _ (Oper.mk _ (.load 32 _) _ _ _ _ :: _) _ _); refine wpList_unguard (by kernel_rfl) ?_; refine ld_mac (BM6.out.keep HB7.out) rfl rfl _ rfl rfl ?_))
  have hb8 := HB7.out.trans (HB8.out.mono HB7.out.size)
  have HW8 := Lib.hid (below_then HW6.out hb8)
  have BN8 := Lib.hid (BN6.out.keep hb8)
  have BP8 := Lib.hid (BP6.out.keep hb8)
  have BM8 := Lib.hid (BM6.out.keep hb8)
  have HPU8 := Lib.hid (HPU6.out.grow hb8)
  have HIW8 := Lib.hid (HIW6.out.grow hb8)
  have HIX8 := Lib.hid (HIX6.out.grow hb8)
  have HXA8 := Lib.hid (HXA6.out.grow hb8)
  clear hb8 HB7 HB8 HW6 BN6 BP6 BM6 HPU6 HIW6 HIX6 HXA6 z0 z1 z2 z3 z4 z5 z6 z7 z8 y0 y1 y2 y3 y4 y5 y6 y7 CV CM
  go_upto_region 7 with (first
    | ((with_reducible show wpList _ _ _ (Oper.mk _ (.load 27 _) _ _ _ _ :: _) _ _); refine ld_netB1 BN8.out (by simpa using HLL.out) rfl _ rfl rfl ?_)
    | (go_at_call 21; (with_reducible refine (CR.out _ _ _ _ _ HW8.out HIW8.out HIX8.out).mono ?_); rintro e9 w9 ⟨OA, SA, oc, sc, rfl, hio, his, hb9⟩; have HB9 := Lib.hid hb9; have HIO := Lib.hid hio.1; have HIS := Lib.hid his.1; clear hb9 hio his))
  have HW9 := Lib.hid (below_then HW8.out HB9.out)
  have BN9 := Lib.hid (BN8.out.keep HB9.out)
  have BP9 := Lib.hid (BP8.out.keep HB9.out)
  have BM9 := Lib.hid (BM8.out.keep HB9.out)
  have HPU9 := Lib.hid (HPU8.out.grow HB9.out)
  have HIW9 := Lib.hid (HIW8.out.grow HB9.out)
  have HIX9 := Lib.hid (HIX8.out.grow HB9.out)
  have HXA9 := Lib.hid (HXA8.out.grow HB9.out)
  clear HB9 HW8 BN8 BP8 BM8 HPU8 HIW8 HIX8 HXA8 CR
  go_upto_region 8 with (first
    | ((with_reducible show wpList _ _ _ (Oper.mk _ (.load 41 _) _ _ _ _ :: _) _ _); refine ld_prg BP9.out (lst_ten u) rfl _ rfl rfl ?_)
    | ((with_reducible show wpList _ _ _ (Oper.mk _ (.load 32 _) _ _ _ _ :: _) _ _); refine ld_mac BM9.out rfl rfl _ rfl rfl ?_)
    | (go_at_call 25; (with_reducible refine (CS.out _ u x _ _ HUD.out HXM.out HW9.out HPU9.out HXA9.out HIX9.out).mono ?_); rintro e10 w10 ⟨ZA, zc, z, hzm, rfl, hiz, hza, hzc, hb10⟩; have HB10 := Lib.hid hb10; have HZM := Lib.hid hzm; have HIZ := Lib.hid hiz; have HZA := Lib.hid hza; have HZC := Lib.hid hzc; clear hb10 hzm hiz hza hzc)
    | ((with_reducible show wpList _ _ _ (Oper.mk none (.store 32 _ _) _ _ _ _ :: _) _ _); refine st_mac (M := zeros5) (Box.new rfl) rfl (L := z.lst) rfl rfl rfl _ _ rfl rfl rfl ?_; intro w11 hb11 hg11; have BZ11 := Lib.hid hb11; have HG11 := Lib.hid hg11; clear hg11 hb11))
  have hba : Below w10.heap.size w10 w11 := grown_to ((Below.refl w10.heap.size w10).alloc (Nat.le_refl _) _) HG11.out (Nat.le_refl _)
  have hbb := below_then HB10.out hba
  have HW11 := Lib.hid (below_then HW9.out hbb)
  have BN11 := Lib.hid (BN9.out.keep hbb)
  have BM11 := Lib.hid (BM9.out.keep hbb)
  have HIW11 := Lib.hid (HIW9.out.grow hbb)
  have HXA11 := Lib.hid (HXA9.out.grow hbb)
  have HIO11 := Lib.hid (HIO.out.grow hbb)
  have HIS11 := Lib.hid (HIS.out.grow hbb)
  have HIZ11 := Lib.hid (HIZ.out.grow hba)
  have HZA11 := Lib.hid (HZA.out.grow hba)
  obtain ⟨gZ, hgZ⟩ : ∃ g, g = w10.heap.size := ⟨_, rfl⟩
  rw [← hgZ] at BZ11 ⊢
  clear hba hbb HG11 HB10 HW9 BN9 BP9 BM9 HPU9 HIW9 HIX9 HXA9 HIO HIS HIZ HZA CS hgZ
  go_upto_region 9 with (first
    | ((with_reducible show wpList _ _ _ (Oper.mk _ (.load 27 _) _ _ _ _ :: _) _ _); refine ld_netB1 BN11.out (by simpa using HLL.out) rfl _ rfl rfl ?_)
    | ((with_reducible show wpList _ _ _ (Oper.mk _ (.load 32 _) _ _ _ _ :: _) _ _); refine ld_mac BM11.out rfl rfl _ rfl rfl ?_)
    | (go_at_call 12; (with_reducible refine (CT0.out _ x HXM.out HW11.out HXA11.out HXC.out).mono ?_); rintro e12 w12 ⟨TA, tc, rfl, ho12, hb12⟩; have HB12 := Lib.hid hb12; have HIT := Lib.hid ho12.ints; clear hb12 ho12))
  go_upto_region 10 with (first
    | ((with_reducible show wpList _ _ _ (Oper.mk _ (.load 27 _) _ _ _ _ :: _) _ _); refine ld_netB1 (BN11.out.keep HB12.out) (by simpa using HLL.out) rfl _ rfl rfl ?_)
    | ((with_reducible show wpList _ _ _ (Oper.mk _ (.load 32 _) _ _ _ _ :: _) _ _); refine ld_mac (BZ11.out.keep HB12.out) rfl rfl _ rfl rfl ?_)
    | (go_at_call 12; (with_reducible refine (CT1.out _ z HZM.out (below_then HW11.out HB12.out) (HZA11.out.grow HB12.out) HZC.out).mono ?_); rintro e13 w13 ⟨UA, uc, rfl, ho13, hb13⟩; have HB13 := Lib.hid hb13; have HIU := Lib.hid ho13.ints; clear hb13 ho13))
  have hbc := below_then HB12.out HB13.out
  have HW13 := Lib.hid (below_then HW11.out hbc)
  have JO := Lib.hid (HIO11.out.grow hbc)
  have JZ := Lib.hid (HIZ11.out.grow hbc)
  have JS := Lib.hid (HIS11.out.grow hbc)
  have JW := Lib.hid (HIW11.out.grow hbc)
  have JT := Lib.hid (HIT.out.grow HB13.out)
  have JU := HIU
  clear hbc HB12 HB13 HW11 BN11 BM11 BZ11 HIW11 HXA11 HIO11 HIS11 HIZ11 HZA11 HIT CT0 CT1
  have HWL : Hid (lw.length ≤ 1000) := Lib.hid (by rw [HLW.out]; have := HS64.out; omega)
  have C1 : Hid (∀ w1, Below w13.heap.size w13 w1 → Calls Tryd.prog 26 #[.slice OA O.length oc, .slice ZA O.length zc] w1 fun e w' => e = .returned (.bool true) ∧ Below w1.heap.size w1 w') := fun w1 hb => rf_Same OA ZA O O oc zc w1 (by have := HOL.out; omega) rfl (JO.out.grow hb) (JZ.out.grow hb)
  have C2 : Hid (∀ w1, Below w13.heap.size w13 w1 → Calls Tryd.prog 26 #[.slice TA lw.length tc, .slice WA lw.length wc] w1 fun e w' => e = .returned (.bool true) ∧ Below w1.heap.size w1 w') := fun w1 hb => rf_Same TA WA lw lw tc wc w1 (by have := HWL.out; omega) rfl (JT.out.grow hb) (JW.out.grow hb)
  have C3 : Hid (∀ w1, Below w13.heap.size w13 w1 → Calls Tryd.prog 26 #[.slice UA SS.length uc, .slice SA SS.length sc] w1 fun e w' => e = .returned (.bool true) ∧ Below w1.heap.size w1 w') := fun w1 hb => rf_Same UA SA SS SS uc sc w1 (by have := HSL.out; omega) rfl (JU.out.grow hb) (JS.out.grow hb)
  go_wp2_with (go_at_call 26; (first
    | ((with_reducible refine (C1.out _ (Below.refl _ _)).mono ?_); rintro e14 w14 ⟨rfl, hb14⟩; have K1 := Lib.hid hb14; clear hb14)
    | ((with_reducible refine (C2.out _ K1.out).mono ?_); rintro e15 w15 ⟨rfl, hb15⟩; have K2 := Lib.hid (below_then K1.out hb15); clear hb15)
    | ((with_reducible refine (C3.out _ K2.out).mono ?_); rintro e16 w16 ⟨rfl, hb16⟩; have K3 := Lib.hid (below_then K2.out hb16); clear hb16)))
  go_ret
  exact ⟨rfl, below_then HW13.out K3.out⟩
end Go.Proofs.YtdiflpbioohddaaDoor
