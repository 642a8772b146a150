/- The law CodegenRefuses. -/
import Derived.Test.YtdiflpbioohddaaDoorhDctoOy
import Derived.Test.YtdiflpbioohddaaDoorhOhtoY6
import Derived.Test.YtdiflpbioohddaaDoorhG9toG10
import Derived.Test.YtdiflpbioohddaaDoorhS3toCr
import Derived.Deep.DeepCutAuto
import Derived.Deep.CutBlock
set_option linter.unusedVariables false
set_option linter.unusedSimpArgs false
namespace Go.Proofs.YtdiflpbioohddaaDoor
open Go.RowKit
set_option maxRecDepth 100000 in
set_option maxHeartbeats 4000000 in
theorem r41_Small (n : NetD) (NA XA : Option Addr) (nc xc : Nat) (w : World) (hn : NetAt w n NA XA) (hok : n.ok = true) (hs : n.st ≤ 3 ∧ n.ns.length ≤ 4 ∧ ∀ ts ∈ n.ns, ts.length ≤ 4) :
    Calls Tryd.prog 17 #[.agg (n.lst NA nc XA xc).toArray] w (BoolBw w true) := by
  have CV : Hid (∀ w1, Below w.heap.size w w1 → Calls Tryd.prog 9 #[.agg (n.lst NA nc XA xc).toArray] w1 fun e w' => e = .returned (.bool true) ∧ Below w1.heap.size w1 w') := fun w1 hb => by
    have h := hn.grow hb
    have := r22_Valid n.d0 n.d1 n.d2 n.d3 n.c0 n.c1 n.c2 n.c3 n.st n.out NA XA nc xc n.ns n.nx w1 h.nodes h.next h.n1 h.n2 h.n3 h.st
    rw [show netB _ _ _ _ _ _ _ _ _ _ _ _ = true from hok] at this; exact this
  obtain ⟨hs1, hs2, hs3⟩ := hs
  have HS3 := Lib.hid hs3
  have HN := Lib.hid hn.nodes
  have HLL : Hid ((n.lst NA nc XA xc).length = 12) := Lib.hid rfl
  obtain ⟨m, hm⟩ : ∃ k, n.ns.length = k := ⟨_, rfl⟩
  have HM := Lib.hid hm
  have HLE : Hid (∀ W, Box W w.heap.size (n.lst NA nc XA xc) → W.cell? ⟨w.heap.size, 8, none⟩ = some (.int .i64 n.st) ∧ W.cell? ⟨w.heap.size, 9, none⟩ = some (.slice NA m nc)) := Lib.hid fun W h => ⟨h.2.1 8, by rw [← hm]; exact h.2.1 9⟩
  rw [hm] at hs2
  obtain ⟨st, hst⟩ : ∃ t, n.st = t := ⟨_, rfl⟩
  rw [hst] at hs1 HLE
  generalize n.lst NA nc XA xc = L at CV HLL HLE ⊢
  clear hn hok hs3 hm hst
  go_enter Tryd.func17, Tryd.ntmps17
  go_upto_region 1 with fail
  have bn0 : Box (w.alloc (.cells L.toArray 27)) w.heap.size L := Box.new rfl
  have hb0 : Below w.heap.size w (w.alloc (.cells L.toArray 27)) := (Below.refl _ _).alloc (Nat.le_refl _) _
  generalize w.alloc (.cells L.toArray 27) = W1 at bn0 hb0 ⊢
  obtain ⟨z8, z9⟩ := HLE.out _ bn0
  have BN1 := Lib.hid bn0
  have HW1 := Lib.hid hb0
  have HN1 := Lib.hid (HN.out.grow hb0)
  clear bn0 hb0
  go_wp2_with fail
  go_loopw [3, 4] (fun t i wr => ∃ k q : Nat, k ≤ m ∧ i = .int .i64 k ∧ t = .int .i64 q ∧ q ≤ 4 * k ∧ wr = W1) (fun _ i _ => m - (intOf i).toNat)
  case atStart => exact ⟨0, 0, Nat.zero_le _, rfl, rfl, Nat.le_refl _, rfl⟩
  case round =>
    obtain ⟨k, q, hk, rfl, rfl, hq, rfl⟩ := hrel
    by_cases hlt : k < m
    · obtain ⟨ts, hts⟩ : ∃ ts, n.ns[k]? = some ts := ⟨_, List.getElem?_eq_getElem (by rw [HM.out]; exact hlt)⟩
      obtain ⟨ad, A, c, rfl, hab, hac, -⟩ := HN1.out k ts hts
      have ht4 := HS3.out ts (List.mem_of_getElem? hts)
      have x0 : (0 : Int) ≤ (k : Int) := by omega
      have x1 : (k : Int) < (m : Int) := by omega
      obtain ⟨tl, htl⟩ : ∃ t, ts.length = t := ⟨_, rfl⟩
      rw [htl] at hac ht4
      have wq : IntKind.i64.wrap ((q : Int) + (tl : Int)) = ((q + tl : Nat) : Int) := (IntWalk.i64_in _ (by omega)).trans (by omega)
      clear hts htl
      go_wp2_with fail
      go_roundw
      case rel => exact ⟨k + 1, q + tl, by omega, by go_num, by go_num, by omega, trivial⟩
      case measure => simp [intOf]; omega
    · obtain rfl : m = k := by omega
      have y1 : decide (st ≤ (16 : Int)) = true := decide_eq_true (by omega)
      have y2 : decide ((m : Int) ≤ (24 : Int)) = true := decide_eq_true (by omega)
      have y3 : decide ((q : Int) ≤ (160 : Int)) = true := decide_eq_true (by omega)
      go_wp2_with (first
        | ((with_reducible show wpList _ _ _ (Oper.mk _ (.load 27 _) _ _ _ _ :: _) _ _); refine ld_netB1 BN1.out (by simpa using HLL.out) rfl _ rfl rfl ?_)
        | (go_at_call 9; (with_reducible refine (CV.out _ HW1.out).mono ?_); rintro e5 w5 ⟨rfl, hb5⟩; have HB5 := Lib.hid (below_then HW1.out hb5); obtain ⟨v8, v9⟩ := HLE.out _ (BN1.out.keep hb5); clear hb5))
      go_ret
      exact ⟨rfl, HB5.out⟩
def zNetD : List Value := NetD.zero.lst none 0 none 0
theorem st_netD {ops : Array Oper} {rest : List Oper} {o : Oper} {a : Act} {Q : Exit → Act → World → Prop} {w : World} {vs : List Value} {g : Nat} (hb : Box w g vs) (hl : vs.length = 12) (hgd : o.guard = none) (x y : Operand) (ho : o.op = .store 27 x y) (hx : a.eval x = .pointer (some ⟨g, 0, none⟩)) {n : NetD} {NB XB : Option Addr} {nb xb : Nat} (hy : a.eval y = .agg (n.lst NB nb XB xb).toArray)
    (h : ∀ W1, Box W1 g (n.lst NB nb XB xb) → w.grownBy W1 (some g) → wpList Tryd.prog ops Q rest (a.put o.dst undef) W1) : wpList Tryd.prog ops Q (o :: rest) a w := by
  match vs, hl with
  | [_, _, _, _, _, _, _, _, _, _, _, _], _ => exact wp_st hgd _ x y ho g 0 _ hx hy size_net (lst_all _ _ _ _ _) hb (by show 0 + 12 ≤ 12; omega) rfl h
theorem entry3b (w : World) (L M K : List Value) {t u v : TypeId} : ∀ W, W = (((w.alloc (.cells L.toArray t)).alloc (.cells M.toArray u)).alloc (.cells K.toArray v)) → (Box W w.heap.size L ∧ Box W (w.heap.size + 1) M) ∧ Box W (w.heap.size + 2) K ∧ Below w.heap.size w W := fun W hW => by
  subst hW
  have h1 : Box (w.alloc (.cells L.toArray t)) w.heap.size L := Box.new rfl
  have h2 : Box ((w.alloc (.cells L.toArray t)).alloc (.cells M.toArray u)) (w.heap.size + 1) M := Box.new (by simp)
  have h3 : Box (((w.alloc (.cells L.toArray t)).alloc (.cells M.toArray u)).alloc (.cells K.toArray v)) (w.heap.size + 2) K := Box.new (by simp)
  exact ⟨⟨(h1.alloc _).alloc _, h2.alloc _⟩, h3, (((Below.refl w.heap.size w).alloc (Nat.le_refl _) _).alloc (by simp) _).alloc (by simp; omega) _⟩
set_option maxRecDepth 100000 in
set_option maxHeartbeats 16000000 in
theorem law_CodegenRefuses (a : NetA) (u : RawA) (l : Option Addr × Nat × List Int) (x : MacA) (w : World) (hf : FormsAt w) (ha : NetOk w a.NA a.ns a.XA a.nx a.st) (hr : RawOk w u) (hl : Ints w l.1 l.2.2 ∧ l.2.2.length ≤ 9223372036854775807) (hx : MacAt w x ∧ MacLen x.m ∧ x.m.mem.length ≤ x.mc) :
    Calls Tryd.prog 3 #[a.val, u.val, .slice l.1 l.2.2.length l.2.1, x.v] w (BoolBw w true) := by
  obtain ⟨SA, sc, s⟩ := l
  obtain ⟨hS, hs9⟩ := hl
  obtain ⟨hxa, hxl, hxc⟩ := hx
  simp only at hS hs9
  have hna := a.at ha
  have ev : a.val = .agg (a.d.lst a.NA a.nc a.XA a.xc).toArray := rfl
  have eu : u.val = .agg u.lst.toArray := rfl
  have em : x.v = .agg x.lst.toArray := rfl
  rw [ev, eu, em]
  clear ev eu em
  obtain ⟨NA, hNA⟩ : ∃ A, a.NA = A := ⟨_, rfl⟩
  obtain ⟨XA, hXA⟩ : ∃ A, a.XA = A := ⟨_, rfl⟩
  rw [hNA, hXA] at hna ⊢
  generalize a.d = n at hna ⊢
  generalize a.nc = nc
  generalize a.xc = xc
  obtain ⟨nn, hnn⟩ : ∃ k, n.ns.length = k := ⟨_, rfl⟩
  obtain ⟨xn, hxn⟩ : ∃ k, n.nx.length = k := ⟨_, rfl⟩
  obtain ⟨sn, hsn⟩ : ∃ k, s.length = k := ⟨_, rfl⟩
  obtain ⟨mn, hmn⟩ : ∃ k, x.m.mem.length = k := ⟨_, rfl⟩
  obtain ⟨vb, hvb⟩ : ∃ b, n.ok = b := ⟨_, rfl⟩
  have CV : Hid (∀ w1, Below w.heap.size w w1 → Calls Tryd.prog 9 #[.agg (n.lst NA nc XA xc).toArray] w1 fun e w' => e = .returned (.bool vb) ∧ Below w1.heap.size w1 w') := fun w1 hb => by
    have h := hna.grow hb
    have := r22_Valid n.d0 n.d1 n.d2 n.d3 n.c0 n.c1 n.c2 n.c3 n.st n.out NA XA nc xc n.ns n.nx w1 h.nodes h.next h.n1 h.n2 h.n3 h.st
    rw [show netB _ _ _ _ _ _ _ _ _ _ _ _ = vb from hvb] at this; exact this
  have CK : Hid (∀ w1, Calls Tryd.prog 8 #[] w1 (BoolBw w1 true)) := fun w1 => known41 w1
  have N1 : Hid (vb = false → ∀ w1, Below w.heap.size w w1 → Calls Tryd.prog 10 #[.agg (n.lst NA nc XA xc).toArray] w1 (RetPrgE w1 PrgD.zero 2)) := fun h w1 hb => cg_Compile_no n NA XA nc xc w1 (hna.grow hb) (hvb.trans h)
  have N2 : Hid (vb = false → ∀ w1, Below w.heap.size w w1 → Calls Tryd.prog 11 #[.agg (n.lst NA nc XA xc).toArray, .slice SA sn sc] w1 (RetMacC w1 macZ 2)) := fun h w1 hb => cg_Embed_no n NA XA SA nc xc sn sc w1 (hna.grow hb) (hvb.trans h)
  have N3 : Hid (vb = false → ∀ w1, Below w.heap.size w w1 → Calls Tryd.prog 12 #[.agg (n.lst NA nc XA xc).toArray, .agg x.lst.toArray] w1 (RetIntE w1 [] 2)) := fun h w1 hb => cg_Extract_no n NA XA nc xc x w1 (hna.grow hb) (hvb.trans h)
  have N4 : Hid (vb = false → ∀ w1, Below w.heap.size w w1 → Calls Tryd.prog 13 #[.agg (n.lst NA nc XA xc).toArray] w1 (RetIntE w1 [] 2)) := fun h w1 hb => cg_Places_no n NA XA nc xc w1 (hna.grow hb) (hvb.trans h)
  have CN : Hid (∀ w1, Below w.heap.size w w1 → Calls Tryd.prog 14 #[.agg u.lst.toArray] w1 (RetRT w1)) := fun w1 hb => raw_RT u w1 (hr.grow hb)
  have HF := Lib.hid hf
  have HS := Lib.hid hS
  have HSN := Lib.hid hsn
  have HXA := Lib.hid hxa
  have HXL := Lib.hid hxl
  have HXC := Lib.hid hxc
  have HND := Lib.hid hna.nodes
  have HNN := Lib.hid hnn
  rw [hsn] at hs9 ⊢
  have HLE : Hid (∀ W, Box W w.heap.size (n.lst NA nc XA xc) → W.cell? ⟨w.heap.size, 9, none⟩ = some (.slice NA nn nc) ∧ W.cell? ⟨w.heap.size, 10, none⟩ = some (.slice XA xn xc)) := Lib.hid fun W h => ⟨by rw [← hnn]; exact h.2.1 9, by rw [← hxn]; exact h.2.1 10⟩
  have HME : Hid (∀ W, Box W (w.heap.size + 2) x.lst → W.cell? ⟨w.heap.size + 2, 1, none⟩ = some (.slice x.MA mn x.mc)) := Lib.hid fun W h => by rw [← hmn]; exact h.2.1 1
  have HLL : Hid ((n.lst NA nc XA xc).length = 12) := Lib.hid rfl
  have hn9 : nn ≤ 9223372036854775807 := by rw [← hnn]; exact hna.n1
  generalize n.lst NA nc XA xc = L at CV N1 N2 N3 N4 HLE HLL ⊢
  clear hf ha hr hS hxa hxl hxc hna hNA hXA hnn hxn hsn hmn hvb
  go_enter Tryd.func3, Tryd.ntmps3
  go_upto_region 1 with fail
  obtain ⟨⟨b0, b1⟩, b2, hb0⟩ := entry3b (t := 27) (u := 30) (v := 32) w L u.lst x.lst _ rfl
  change Code.wp _ _ _ _ (((w.alloc (.cells L.toArray 27)).alloc (.cells u.lst.toArray 30)).alloc (.cells x.lst.toArray 32))
  generalize (((w.alloc (.cells L.toArray 27)).alloc (.cells u.lst.toArray 30)).alloc (.cells x.lst.toArray 32)) = W1 at b0 b1 b2 hb0 ⊢
  obtain ⟨z9, z10⟩ := HLE.out _ b0
  have zM := HME.out _ b2
  have B0 := Lib.hid b0
  have B1 := Lib.hid b1
  have B2 := Lib.hid b2
  have HW1 := Lib.hid hb0
  have HND1 := Lib.hid (HND.out.grow hb0)
  clear b0 b1 b2 hb0 HND
  by_cases c1 : 70 < nn
  · have x1 : decide ((70 : Int) < (nn : Int)) = true := decide_eq_true (by omega)
    go_wp2_with (go_at_call 8; (with_reducible refine (CK.out _).mono ?_); rintro e2 w2 ⟨rfl, hb2⟩)
    go_ret
    exact ⟨rfl, below_then HW1.out hb2⟩
  have x1 : decide ((70 : Int) < (nn : Int)) = false := decide_eq_false (by omega)
  by_cases c2 : 70 < xn
  · have x2 : decide ((70 : Int) < (xn : Int)) = true := decide_eq_true (by omega)
    go_wp2_with (go_at_call 8; (with_reducible refine (CK.out _).mono ?_); rintro e2 w2 ⟨rfl, hb2⟩)
    go_ret
    exact ⟨rfl, below_then HW1.out hb2⟩
  have x2 : decide ((70 : Int) < (xn : Int)) = false := decide_eq_false (by omega)
  by_cases c3 : 20 < sn
  · have x3 : decide ((20 : Int) < (sn : Int)) = true := decide_eq_true (by omega)
    go_wp2_with (go_at_call 8; (with_reducible refine (CK.out _).mono ?_); rintro e2 w2 ⟨rfl, hb2⟩)
    go_ret
    exact ⟨rfl, below_then HW1.out hb2⟩
  have x3 : decide ((20 : Int) < (sn : Int)) = false := decide_eq_false (by omega)
  by_cases c4 : 200 < mn
  · have x4 : decide ((200 : Int) < (mn : Int)) = true := decide_eq_true (by omega)
    go_wp2_with (go_at_call 8; (with_reducible refine (CK.out _).mono ?_); rintro e2 w2 ⟨rfl, hb2⟩)
    go_ret
    exact ⟨rfl, below_then HW1.out hb2⟩
  have x4 : decide ((200 : Int) < (mn : Int)) = false := decide_eq_false (by omega)
  go_wp2_with fail
  go_loopw [9] (fun i wr => ∃ k : Nat, k ≤ nn ∧ i = .int .i64 k ∧ wr = W1) (fun i _ => nn - (intOf i).toNat)
  case atStart => exact ⟨0, Nat.zero_le _, rfl, rfl⟩
  case round =>
    obtain ⟨k, hk, rfl, rfl⟩ := hrel
    by_cases hlt : k < nn
    · obtain ⟨ts, hts⟩ : ∃ ts, n.ns[k]? = some ts := ⟨_, List.getElem?_eq_getElem (by rw [HNN.out]; exact hlt)⟩
      obtain ⟨ad, A, c, rfl, hab, hac, -⟩ := HND1.out k ts hts
      have y0 : (0 : Int) ≤ (k : Int) := by omega
      have y1 : (k : Int) < (nn : Int) := by omega
      obtain ⟨tl, htl⟩ : ∃ t, ts.length = t := ⟨_, rfl⟩
      rw [htl] at hac
      clear hts htl
      by_cases c5 : 70 < tl
      · have x5 : decide ((70 : Int) < (tl : Int)) = true := decide_eq_true (by omega)
        go_wp2_with (go_at_call 8; (with_reducible refine (CK.out _).mono ?_); rintro e2 w2 ⟨rfl, hb2⟩)
        go_ret
        exact ⟨rfl, below_then HW1.out hb2⟩
      · have x5 : decide ((70 : Int) < (tl : Int)) = false := decide_eq_false (by omega)
        go_wp2_with fail
        go_roundw
        case rel => exact ⟨k + 1, by omega, by go_num, trivial⟩
        case measure => simp [intOf]; omega
    · obtain rfl : nn = k := by omega
      clear x2 x3 x4
      go_upto_region 8 with fail
      clear z9 z10 zM x1
      go_upto_if 67 with (first
        | ((with_reducible show wpList _ _ _ (Oper.mk _ (.load 27 _) _ _ _ _ :: _) _ _); refine ld_netB1 B0.out (by simpa using HLL.out) rfl _ rfl rfl ?_)
        | (go_at_call 9; (with_reducible refine (CV.out _ HW1.out).mono ?_); rintro e2 w2 ⟨rfl, hb2⟩))
      have HB2 := Lib.hid (below_then HW1.out hb2)
      have C0 := Lib.hid (B0.out.keep hb2)
      have C1 := Lib.hid (B1.out.keep hb2)
      have C2 := Lib.hid (B2.out.keep hb2)
      clear hb2 B0 B1 B2 HW1 HND1
      go_cut [9] (fun _ wx => Below w2.heap.size w2 wx)
      case first =>
        cases vb with
        | true =>
          go_wp2_with fail
          go_meet
          exact Below.refl _ _
        | false =>
          have M1 := Lib.hid (N1.out rfl)
          have M2 := Lib.hid (N2.out rfl)
          have M3 := Lib.hid (N3.out rfl)
          have M4 := Lib.hid (N4.out rfl)
          clear N1 N2 N3 N4
          go_upto_region 10 with (first
            | ((with_reducible show wpList _ _ _ (Oper.mk _ (.load 27 _) _ _ _ _ :: _) _ _); refine ld_netB1 C0.out (by simpa using HLL.out) rfl _ rfl rfl ?_)
            | (go_at_call 10; (with_reducible refine (M1.out _ HB2.out).mono ?_); rintro e3 w3 ⟨u3, -, rfl, -, hb3⟩; have HB3 := Lib.hid hb3; clear hb3)
            | ((with_reducible show wpList _ _ _ (Oper.mk none (.store 41 _ _) _ _ _ _ :: _) _ _); refine st_prgB (M := zeros10) (Box.new rfl) rfl (L := u3.lst) rfl rfl rfl _ _ rfl rfl rfl ?_; intro w4 hbS hgS; have HBS4 := Lib.hid hbS; have HGS4 := Lib.hid hgS; clear hgS hbS))
          have HK4 := Lib.hid (below_then HB3.out (grown_to ((Below.refl w3.heap.size w3).alloc (Nat.le_refl _) _) HGS4.out (Nat.le_refl _)))
          clear HB3 HGS4 HBS4
          go_upto_region 11 with (first
            | ((with_reducible show wpList _ _ _ (Oper.mk _ (.load 27 _) _ _ _ _ :: _) _ _); refine ld_netB1 (C0.out.keep HK4.out) (by simpa using HLL.out) rfl _ rfl rfl ?_)
            | (go_at_call 11; (with_reducible refine (M2.out _ (below_then HB2.out HK4.out)).mono ?_); rintro e5 w5 ⟨x5, -, rfl, -, -, hb5⟩; have HB5 := Lib.hid hb5; clear hb5)
            | ((with_reducible show wpList _ _ _ (Oper.mk none (.store 32 _ _) _ _ _ _ :: _) _ _); refine st_mac (M := zeros5) (Box.new rfl) rfl (L := x5.lst) rfl rfl rfl _ _ rfl rfl rfl ?_; intro w6 hbS hgS; have HBS6 := Lib.hid hbS; have HGS6 := Lib.hid hgS; clear hgS hbS))
          have HK6 := Lib.hid (below_then (below_then HK4.out HB5.out) (grown_to ((Below.refl w5.heap.size w5).alloc (Nat.le_refl _) _) HGS6.out (Nat.le_refl _)))
          clear HB5 HGS6 HBS6 HK4
          go_upto_region 12 with (first
            | ((with_reducible show wpList _ _ _ (Oper.mk _ (.load 27 _) _ _ _ _ :: _) _ _); refine ld_netB1 (C0.out.keep HK6.out) (by simpa using HLL.out) rfl _ rfl rfl ?_)
            | ((with_reducible show wpList _ _ _ (Oper.mk _ (.load 32 _) _ _ _ _ :: _) _ _); refine ld_mac (C2.out.keep HK6.out) rfl rfl _ rfl rfl ?_)
            | (go_at_call 12; (with_reducible refine (M3.out _ (below_then HB2.out HK6.out)).mono ?_); rintro e7 w7 ⟨A7, c7, rfl, -, hb7⟩; have HK7 := Lib.hid (below_then HK6.out hb7); clear hb7))
          go_wp2_with (first
            | ((with_reducible show wpList _ _ _ (Oper.mk _ (.load 27 _) _ _ _ _ :: _) _ _); refine ld_netB1 (C0.out.keep HK7.out) (by simpa using HLL.out) rfl _ rfl rfl ?_)
            | (go_at_call 13; (with_reducible refine (M4.out _ (below_then HB2.out HK7.out)).mono ?_); rintro e8 w8 ⟨A8, c8, rfl, -, hb8⟩; have HK8 := Lib.hid (below_then HK7.out hb8); clear hb8))
          go_meet
          exact HK8.out
      case rest =>
        clear N1 N2 N3 N4 CV
        have HWC := Lib.hid (below_then HB2.out hcut)
        have D1 := Lib.hid (C1.out.keep hcut)
        have D2 := Lib.hid (C2.out.keep hcut)
        clear hcut C0 C1 C2 HB2 HLE HME HLL
        go_upto_region 16 with (first
          | ((with_reducible show wpList _ _ _ (Oper.mk _ (.load 30 _) _ _ _ _ :: _) _ _); refine ld_raw D1.out rfl _ rfl rfl ?_)
          | (go_at_call 14; (with_reducible refine (CN.out _ HWC.out).mono ?_); rintro e3 w3 ⟨q, RA, rc, QA, qc, rfl, hok, hsm, hqa, hb3⟩; have HB3 := Lib.hid hb3; have HOK := Lib.hid hok; have HSM := Lib.hid hsm; have HQA := Lib.hid hqa; clear hb3 hok hsm hqa)
          | ((with_reducible show wpList _ _ _ (Oper.mk none (.store 27 _ _) _ _ _ _ :: _) _ _); refine st_netD (w := w3.alloc (.cells zNetD.toArray 27)) (g := w3.heap.size) (vs := zNetD) (n := q) (NB := RA) (nb := rc) (XB := QA) (xb := qc) (Box.new rfl) rfl rfl _ _ rfl rfl rfl ?_; intro w4 hbS hgS; have HBS4 := Lib.hid hbS; have HGS4 := Lib.hid hgS; clear hgS hbS))
        have hba : Below w3.heap.size w3 w4 := grown_to ((Below.refl w3.heap.size w3).alloc (Nat.le_refl _) _) HGS4.out (Nat.le_refl _)
        have HW4 := Lib.hid (below_then (below_then HWC.out HB3.out) hba)
        have D4 := Lib.hid ((D2.out.keep HB3.out).keep hba)
        have HQ4 := Lib.hid (HQA.out.grow hba)
        have HV := Lib.hid (small_valid HOK.out HSM.out)
        obtain ⟨-, -, ⟨p2, p3⟩, -, p5, -, -, -, -⟩ := netB_parts HOK.out
        obtain ⟨gX, hgX⟩ : ∃ g, g = w3.heap.size := ⟨_, rfl⟩
        rw [← hgX] at HBS4 ⊢
        clear hba HGS4 HB3 D1 D2 HQA HWC CN hgX
        have CC : Hid (∀ w1, Below w4.heap.size w4 w1 → Calls Tryd.prog 10 #[.agg (q.lst RA rc QA qc).toArray] w1 (RetPrgE w1 q.prg 0)) := fun w1 hb => cg_Compile_ok q RA QA rc qc w1 ((HF.out.grow HW4.out).grow hb) (HQ4.out.grow hb) HOK.out HV.out
        have CE : Hid (∀ w1, Below w4.heap.size w4 w1 → Calls Tryd.prog 11 #[.agg (q.lst RA rc QA qc).toArray, .slice SA sn sc] w1 (RetEmb w1 q s)) := fun w1 hb => cg_Embed_ok q RA QA SA rc qc sn sc s w1 ((HF.out.grow HW4.out).grow hb) (HQ4.out.grow hb) HOK.out HV.out ((HS.out.grow HW4.out).grow hb) HSN.out hs9
        have CX : Hid (∀ w1, Below w4.heap.size w4 w1 → Calls Tryd.prog 12 #[.agg (q.lst RA rc QA qc).toArray, .agg x.lst.toArray] w1 (RetExt w1 q x.m)) := fun w1 hb => cg_Extract_ok q RA QA rc qc x w1 ((HF.out.grow HW4.out).grow hb) (HQ4.out.grow hb) HOK.out HV.out ((HXA.out.grow HW4.out).grow hb) HXL.out HXC.out
        have CS : Hid (∀ w1, Below w4.heap.size w4 w1 → Calls Tryd.prog 17 #[.agg (q.lst RA rc QA qc).toArray] w1 (BoolBw w1 true)) := fun w1 hb => r41_Small q RA QA rc qc w1 (HQ4.out.grow hb) HOK.out HSM.out
        have CW : Hid (∀ w1, Below w4.heap.size w4 w1 → Calls Tryd.prog 15 #[.agg #[.int .i64 q.d0, .int .i64 q.d1, .int .i64 q.d2, .int .i64 q.d3], .slice SA sn sc] w1 fun e w' => e = .returned (.bool (q.fit s)) ∧ Below w1.heap.size w1 w') := fun w1 hb => by
          have h := rf_Words q.d0 q.d1 q.d2 q.d3 SA s sc w1 (by rw [HSN.out]; exact hs9) ((HS.out.grow HW4.out).grow hb)
          rw [HSN.out] at h
          exact h
        have CM : Hid (∀ w1 (p : PrgA), p.d = q.prg → PrgAt w1 p → Below w4.heap.size w4 w1 → Calls Tryd.prog 16 #[.agg p.lst.toArray, .agg x.lst.toArray] w1 fun e w' => e = .returned (.bool (macB q.prg x.m)) ∧ Below w1.heap.size w1 w') := fun w1 p hp hpa hb => by
          have h512 := (valid_parts HV.out).2.2.1.2
          exact r39_Valid p x w1 hpa ((HXA.out.grow HW4.out).grow hb) (by rw [hp]; show 0 ≤ _; omega) (by rw [hp]; omega) HXL.out (by rw [hp])
        have HLL2 : Hid ((q.lst RA rc QA qc).length = 12) := Lib.hid rfl
        obtain ⟨st, hst⟩ : ∃ t, q.st = t := ⟨_, rfl⟩
        have HST := Lib.hid hst
        have HLX : Hid (∀ W, Box W gX (q.lst RA rc QA qc) → (W.cell? ⟨gX, 0, none⟩ = some (.int .i64 q.d0) ∧ W.cell? ⟨gX, 1, none⟩ = some (.int .i64 q.d1) ∧ W.cell? ⟨gX, 2, none⟩ = some (.int .i64 q.d2) ∧ W.cell? ⟨gX, 3, none⟩ = some (.int .i64 q.d3)) ∧ W.cell? ⟨gX, 8, none⟩ = some (.int .i64 st)) := Lib.hid fun W h => ⟨⟨h.2.1 0, h.2.1 1, h.2.1 2, h.2.1 3⟩, by rw [← hst]; exact h.2.1 8⟩
        generalize q.lst RA rc QA qc = Lq at CC CE CX CS HLL2 HLX HBS4 ⊢
        clear p2 p3 p5 hst
        go_upto_region 17 with (first
          | ((with_reducible show wpList _ _ _ (Oper.mk _ (.load 27 _) _ _ _ _ :: _) _ _); refine ld_netB1 HBS4.out (by simpa using HLL2.out) rfl _ rfl rfl ?_)
          | (go_at_call 10; (with_reducible refine (CC.out _ (Below.refl _ _)).mono ?_); rintro e5 w5 ⟨p, hpd, rfl, hpa, hb5⟩; have HB5 := Lib.hid hb5; have HPD := Lib.hid hpd; have HPA := Lib.hid hpa; clear hb5 hpd hpa)
          | ((with_reducible show wpList _ _ _ (Oper.mk none (.store 41 _ _) _ _ _ _ :: _) _ _); refine st_prgB (M := zeros10) (Box.new rfl) rfl (L := p.lst) rfl rfl rfl _ _ rfl rfl rfl ?_; intro w6 hbS hgS; have HBS6 := Lib.hid hbS; have HGS6 := Lib.hid hgS; clear hgS hbS))
        have hba : Below w5.heap.size w5 w6 := grown_to ((Below.refl w5.heap.size w5).alloc (Nat.le_refl _) _) HGS6.out (Nat.le_refl _)
        have HK6 := Lib.hid (below_then HB5.out hba)
        have HP6 := Lib.hid (HPA.out.grow hba)
        obtain ⟨gP, hgP⟩ : ∃ g, g = w5.heap.size := ⟨_, rfl⟩
        rw [← hgP] at HBS6 ⊢
        clear hba HGS6 HB5 HPA CC hgP
        go_upto_region 18 with (first
          | ((with_reducible show wpList _ _ _ (Oper.mk _ (.load 27 _) _ _ _ _ :: _) _ _); refine ld_netB1 (HBS4.out.keep HK6.out) (by simpa using HLL2.out) rfl _ rfl rfl ?_)
          | (go_at_call 11; (with_reducible refine (CE.out _ HK6.out).mono ?_); rintro e7 w7 ⟨y, -, rfl, -, -, hb7⟩; have HB7 := Lib.hid hb7; clear hb7)
          | ((with_reducible show wpList _ _ _ (Oper.mk none (.store 32 _ _) _ _ _ _ :: _) _ _); refine st_mac (M := zeros5) (Box.new rfl) rfl (L := y.lst) rfl rfl rfl _ _ rfl rfl rfl ?_; intro w8 hbS hgS; have HBS8 := Lib.hid hbS; have HGS8 := Lib.hid hgS; clear hgS hbS))
        have hba : Below w6.heap.size w6 w8 := below_then HB7.out (grown_to ((Below.refl w7.heap.size w7).alloc (Nat.le_refl _) _) HGS8.out (Nat.le_refl _))
        have HK8 := Lib.hid (below_then HK6.out hba)
        have HP8 := Lib.hid (HP6.out.grow hba)
        have BP8 := Lib.hid (HBS6.out.keep hba)
        clear hba HGS8 HB7 HBS8 HBS6 HP6 HK6 CE
        go_upto_region 20 with (first
          | ((with_reducible show wpList _ _ _ (Oper.mk _ (.load 27 _) _ _ _ _ :: _) _ _); refine ld_netB1 (HBS4.out.keep HK8.out) (by simpa using HLL2.out) rfl _ rfl rfl ?_)
          | ((with_reducible show wpList _ _ _ (Oper.mk _ (.load 32 _) _ _ _ _ :: _) _ _); refine ld_mac (D4.out.keep HK8.out) rfl rfl _ rfl rfl ?_)
          | (go_at_call 12; (with_reducible refine (CX.out _ HK8.out).mono ?_); rintro e9 w9 ⟨A9, c9, rfl, -, hb9⟩; have HB9 := Lib.hid hb9; clear hb9))
        have HK9 := Lib.hid (below_then HK8.out HB9.out)
        have HP9 := Lib.hid (HP8.out.grow HB9.out)
        have BP9 := Lib.hid (BP8.out.keep HB9.out)
        clear HK8 HP8 BP8 HB9 CX
        have BX9 := Lib.hid (HBS4.out.keep HK9.out)
        obtain ⟨⟨z0, z1, z2, z3⟩, z8⟩ := HLX.out _ BX9.out
        obtain ⟨E, hE⟩ : ∃ E, embE q s = E := ⟨_, rfl⟩
        obtain ⟨X, hX⟩ : ∃ X, extE q.prg x.m = X := ⟨_, rfl⟩
        rw [hE, hX]
        have HE := Lib.hid hE
        have HX := Lib.hid hX
        clear hE hX
        go_upto_if 127 with fail
        go_cut [25] (fun v wx => v = .int .i64 E ∧ Below w9.heap.size w9 wx)
        case first =>
          by_cases hlen : (sn : Int) = st
          · subst hlen
            obtain ⟨fb, hfb⟩ : ∃ b, q.fit s = b := ⟨_, rfl⟩
            have HFB := Lib.hid hfb
            clear hfb
            cases fb with
            | true =>
              have HE0 : Hid (E = 0) := Lib.hid (by rw [← HE.out]; unfold embE; rw [HSN.out, HST.out, if_pos rfl, HFB.out]; rfl)
              go_wp2_with (go_at_call 15; (with_reducible refine (CW.out _ HK9.out).mono ?_); rw [HFB.out]; rintro e10 w10 ⟨rfl, hb10⟩; have HB10 := Lib.hid hb10; clear hb10)
              go_meet
              exact ⟨by rw [HE0.out], HB10.out⟩
            | false =>
              have HE0 : Hid (E = 17) := Lib.hid (by rw [← HE.out]; unfold embE; rw [HSN.out, HST.out, if_pos rfl, HFB.out]; rfl)
              go_wp2_with (go_at_call 15; (with_reducible refine (CW.out _ HK9.out).mono ?_); rw [HFB.out]; rintro e10 w10 ⟨rfl, hb10⟩; have HB10 := Lib.hid hb10; clear hb10)
              go_meet
              exact ⟨by rw [HE0.out], HB10.out⟩
          · have HE0 : Hid (E = 1) := Lib.hid (by rw [← HE.out]; unfold embE; rw [HSN.out, HST.out, if_neg hlen])
            have xl : ((sn : Int) != st) = true := by simpa using hlen
            go_wp2_with fail
            go_meet
            exact ⟨by rw [HE0.out], Below.refl _ _⟩
        case rest =>
          obtain ⟨rfl, hbw⟩ := hcut
          have HKA := Lib.hid (below_then HK9.out hbw)
          have HPA := Lib.hid (HP9.out.grow hbw)
          have BPA := Lib.hid (BP9.out.keep hbw)
          clear hbw HK9 HP9 BP9 BX9 z0 z1 z2 z3 z8 CW
          obtain ⟨RB, hRB⟩ : ∃ b, macB q.prg x.m = b := ⟨_, rfl⟩
          have HRB := Lib.hid hRB
          rw [hRB] at CM
          clear hRB
          have XE : Hid (∀ a b : Int, a = b → (a == b) = true) := Lib.hid fun a b h => by simpa using h
          go_upto_if 136 with (first
            | ((with_reducible show wpList _ _ _ (Oper.mk _ (.load 41 _) _ _ _ _ :: _) _ _); refine ld_prg BPA.out (lst_ten p) rfl _ rfl rfl ?_)
            | ((with_reducible show wpList _ _ _ (Oper.mk _ (.load 32 _) _ _ _ _ :: _) _ _); refine ld_mac (D4.out.keep HKA.out) rfl rfl _ rfl rfl ?_)
            | (go_at_call 16; (with_reducible refine (CM.out _ p HPD.out HPA.out HKA.out).mono ?_); rintro e11 w11 ⟨rfl, hb11⟩; have HKB := Lib.hid (below_then HKA.out hb11); clear hb11))
          go_cut [26] (fun v wx => v = .int .i64 X ∧ wx = w11)
          case first =>
            cases RB with
            | true =>
              have HX0 : Hid (X = 0) := Lib.hid (by rw [← HX.out]; unfold extE; rw [HRB.out]; rfl)
              go_wp2_with fail
              go_meet
              exact ⟨by rw [HX0.out], rfl⟩
            | false =>
              have HX0 : Hid (X = 1) := Lib.hid (by rw [← HX.out]; unfold extE; rw [HRB.out]; rfl)
              go_wp2_with fail
              go_meet
              exact ⟨by rw [HX0.out], rfl⟩
          case rest =>
            obtain ⟨rfl, rfl⟩ := hcut
            go_wp2_with (first
              | (go_at_call 8; (with_reducible refine (CK.out _).mono ?_); rintro e12 w12 ⟨rfl, hb12⟩; have HKC := Lib.hid (below_then HKB.out hb12); clear hb12)
              | ((with_reducible show wpList _ _ _ (Oper.mk _ (.load 27 _) _ _ _ _ :: _) _ _); refine wpList_unguard (by kernel_rfl) ?_; refine ld_netB1 (HBS4.out.keep HKC.out) (by simpa using HLL2.out) rfl _ rfl rfl ?_)
              | (go_at_call 17; (with_reducible refine (CS.out _ HKC.out).mono ?_); rintro e13 w13 ⟨rfl, hb13⟩; have HKD := Lib.hid (below_then HKC.out hb13); clear hb13))
            go_ret
            exact ⟨rfl, below_then HW4.out HKD.out⟩
end Go.Proofs.YtdiflpbioohddaaDoor
