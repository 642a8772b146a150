/- Greedy of package schedule. Printed by gen_e18.py. -/
import Derived.Test.YtdiflpbioohddaaDoortE13toE16
import Derived.Test.YtdiflpbioohddaaDoortE17
set_option linter.unusedVariables false
set_option linter.unusedSimpArgs false
namespace Go.Proofs.YtdiflpbioohddaaDoor
open Go.RowKit
def RetIns (w : World) (l : List Ins) (E : Int) (e : Ending) (w' : World) : Prop := ∃ v, e = .returned (.tuple #[v, .int .i64 E]) ∧ OwnIR w.heap.size w' v l ∧ Below w.heap.size w w'
theorem RetIns.form {w w' : World} {l : List Ins} {E : Int} {e : Ending} (h : RetIns w l E e w') : ∃ A c, e = .returned (.tuple #[.slice A l.length c, .int .i64 E]) ∧ InsAt w' A l ∧ Below w.heap.size w w' := by
 obtain ⟨v, he, ho, hb⟩ := h
 obtain ⟨A, c, rfl, hc, hi⟩ := ho.form
 exact ⟨A, c, he, hi, hb⟩
theorem OwnT.underG {base g n b : Nat} {w w' : World} {l : List Bool} (h : OwnT base w g n l) (hb : Below b w w') (hg : g < b) : OwnT base w' g n l := by
 obtain ⟨⟨h1, h2 | ⟨q, cap, cur, hv, hq, hh, r⟩⟩, h3⟩ := h
 ·exact ⟨⟨h1, .inl h2⟩, h3⟩
 ·refine ⟨⟨h1, .inr ⟨q, cap, cur, hv, hq, ?_, r⟩⟩, h3⟩
  injection hv with e _ _
  injection e with e
  injection e with e
  exact (hb.block q (by omega)).trans hh
theorem BoxI.under {g b : Nat} {w w' : World} {R : List Int} (h : BoxI w g R) (hb : Below b w w') (hg : g < b) : BoxI w' g R := Box.block h (hb.block g hg) hb.size
theorem IntsL.row {w : World} {A : Option Addr} {ll : List (List Int)} (h : IntsL w A ll) {k : Nat} {l : List Int} (hk : ll[k]? = some l) :
  ∃ ad B c, A = some ad ∧ w.cell? (ad.add k) = some (.slice B l.length c) ∧ Ints w B l := by
 obtain ⟨ad, B, c, e, h1, h2, h3⟩ := h k l hk
 exact ⟨ad, B, c, e, h2, h3⟩
def OwnG (base : Nat) (w : World) (v : Value) (l : List Ins) : Prop := OwnIR base w v l ∧ base ≤ w.heap.size
theorem OwnG.grow {base : Nat} {w w' : World} {v : Value} {l : List Ins} (h : OwnG base w v l) (hb : Below w.heap.size w w') : OwnG base w' v l := ⟨h.1.grow hb, Nat.le_trans h.2 hb.size⟩
theorem OwnG.store {base g k : Nat} {w : World} {v u : Value} {l : List Ins} (h : OwnG base w v l) (hg : g < base) : OwnG base (w.setCell ⟨g, k, none⟩ u) v l := ⟨h.1.store hg, Nat.le_trans h.2 (grown_set (grown_refl w (some g)) (k := k) (u := u)).size⟩
theorem all_take {l : List Int} {p : Int → Bool} {k : Nat} {x : Int} (h : l[k]? = some x) : (l.take (k + 1)).all p = ((l.take k).all p && p x) := by
 rw [take_snoc' h, List.all_append]; simp
theorem all_false {l : List Int} {p : Int → Bool} {k : Nat} {x : Int} (h : l[k]? = some x) (hp : p x = false) : l.all p = false := by
 rw [List.all_eq_false]
 exact ⟨x, List.mem_of_getElem? h, by simp [hp]⟩
set_option maxRecDepth 100000 in
set_option maxHeartbeats 16000000 in
theorem sc_Greedy (A : Option Addr) (n c : Nat) (l : List Ins) (w : World) (hf : FormsAt w) (h : InsAt w A l) (hn : l.length = n) (h9 : n ≤ 9223372036854775807) : Calls Tryd.prog 55 #[.slice A n c] w (RetIns w (grD l) (depE l)) := by
 have CD := Lib.hid (sc_Depends A n c l w hf h hn h9)
 by_cases hfl : fineF l = true
 ·have hl := fineF_len hfl
  rw [hn] at hl
  have hn512 : n ≤ 512 := hl.2
  have e1 : depD l = depsF l := by unfold depD; rw [if_pos hfl]
  have e2 : depE l = 0 := by unfold depE; rw [if_pos hfl]
  have e3 : grD l = grF l := by unfold grD; rw [if_pos hfl]
  have e4 : (depsF l).length = n := by unfold depsF; rw [depT_length, hn]
  have e5 := htF_in l (by omega)
  rw [hn] at e5
  have HAT : Hid (∀ j, j < n → (depsF l)[j]? = some (depRow l j j)) := fun j hj => by
   unfold depsF; rw [hn, depT_at hj, if_pos hj]
  rw [e1, e2] at CD
  rw [e2, e3]
  have HE4 := Lib.hid e4
  have HE5 := Lib.hid e5
  have HI := Lib.hid h
  have HN := Lib.hid hn
  have HGI := Lib.hid (gr_inv l (htF l))
  have CU : Hid (∀ w1, Below w.heap.size w w1 → Calls Tryd.prog 81 #[.slice A n c] w1 fun e w' => ∃ UA uc, e = .returned (.tuple #[.slice UA n uc, .int .i64 0]) ∧ UsesAt w' UA l ∧ Below w1.heap.size w1 w') := fun w1 hb => by
   refine (sc_uses A n c l w1 (hf.grow hb) (HI.out.grow hb) HN.out h9).mono ?_
   rintro e w' ⟨⟨UA, uc, he, hu⟩, hb⟩
   unfold depE at he
   rw [if_pos hfl, if_pos hfl, HN.out] at he
   exact ⟨UA, uc, he, hu hfl, hb⟩
  have CH : Hid (∀ w1, Below w.heap.size w w1 → Calls Tryd.prog 82 #[.slice A n c] w1 fun e w' => ∃ HA hc, e = .returned (.tuple #[.slice HA n hc, .int .i64 0]) ∧ Ints w' HA (htF l) ∧ Below w1.heap.size w1 w') := fun w1 hb => by
   refine (sc_Heights A n c l w1 (hf.grow hb) (HI.out.grow hb) HN.out h9).mono ?_
   intro e w' hr
   obtain ⟨HA, hc, he, hi, hb⟩ := hr.form
   unfold depE htD at *
   rw [if_pos hfl] at *
   rw [if_pos hfl, HE5.out.1] at he
   exact ⟨HA, hc, he, hi, hb⟩
  clear h hn hfl h9 e1 e2 e3 e4 e5 hf
  go_enter Tryd.func55, Tryd.ntmps55
  go_upto_region 4 with (go_at_call 80; (with_reducible refine CD.out.mono ?_); rintro e1 w1 ⟨DA, dc, rfl, hd, hb1⟩)
  rw [HE4.out]
  go_upto_region 5 with (go_at_call 81; (with_reducible refine (CU.out _ hb1).mono ?_); rintro e1 w2 ⟨UA, uc, rfl, hu, hb2⟩)
  have hb12 := below_then hb1 hb2
  go_upto_region 6 with (go_at_call 82; (with_reducible refine (CH.out _ hb12).mono ?_); rintro e1 w3 ⟨HA, hc, rfl, hh, hb3⟩)
  have HB0 := Lib.hid (below_then hb12 hb3)
  have HD := Lib.hid (hd.grow (below_then hb2 hb3))
  have HU := Lib.hid (hu.grow hb3)
  have HH := Lib.hid hh
  have HI0 := Lib.hid (HI.out.grow HB0.out)
  clear hd hu hh hb1 hb2 hb3 hb12 CD CU CH HI HE4
  go_upto_region 7 with ((with_reducible show wpList _ _ _ (Oper.mk (some 44) _ _ _ _ _ :: _) _ _); refine mk_bool rfl _ _ rfl w3.heap.size n rfl rfl rfl (by omega) (Nat.le_refl _) ?_; intro w4 ho4 hb4)
  go_upto_region 8 with fail
  have hz8 : (.cells #[.int .i64 0, .int .i64 0, .int .i64 0, .int .i64 0, .int .i64 0, .int .i64 0, .int .i64 0, .int .i64 0] 142 : Obj) = (.cells #[.int .i64 0, .int .i64 0, .int .i64 0, .int .i64 0, .int .i64 0, .int .i64 0, .int .i64 0, .int .i64 0] 142) := rfl
  have bx : BoxI (w4.alloc (.cells #[.int .i64 0, .int .i64 0, .int .i64 0, .int .i64 0, .int .i64 0, .int .i64 0, .int .i64 0, .int .i64 0] 142)) w4.heap.size (List.replicate 8 0) := Box.new (w := w4) (vs := #[.int .i64 0, .int .i64 0, .int .i64 0, .int .i64 0, .int .i64 0, .int .i64 0, .int .i64 0, .int .i64 0]) (t := 142) (g := w4.heap.size) rfl
  have ha5 := (Below.refl w4.heap.size w4).alloc (Nat.le_refl _) (.cells #[.int .i64 0, .int .i64 0, .int .i64 0, .int .i64 0, .int .i64 0, .int .i64 0, .int .i64 0, .int .i64 0] 142)
  have ho5 := ho4.grow ha5
  have hb5 := hb4.trans (ha5.mono hb4.size)
  have hgT : w3.heap.size < w4.heap.size := ho4.block.2
  have hg5 : w4.heap.size < (w4.alloc (.cells #[.int .i64 0, .int .i64 0, .int .i64 0, .int .i64 0, .int .i64 0, .int .i64 0, .int .i64 0, .int .i64 0] 142)).heap.size := bx.1
  clear ho4 hb4 ha5 hz8
  generalize w4.alloc (.cells #[.int .i64 0, .int .i64 0, .int .i64 0, .int .i64 0, .int .i64 0, .int .i64 0, .int .i64 0, .int .i64 0] 142) = w5 at bx ho5 hb5 hg5 ⊢
  have HG : Hid (∃ gR, w4.heap.size = gR) := ⟨_, rfl⟩
  obtain ⟨gR, hgR⟩ := HG.out
  rw [hgR] at bx hgT hg5 ⊢
  clear hgR HG
  go_upto_region 10 with ((with_reducible show wpList _ _ _ (Oper.mk (some 47) _ _ _ _ _ :: _) _ _); refine mk_ins0 rfl _ _ rfl w5.heap.size n rfl rfl rfl (by omega) (Nat.le_refl _) ?_; intro w6 ho6 hb6)
  have HTT : Hid (∃ gT, w3.heap.size = gT) := ⟨_, rfl⟩
  obtain ⟨gT, hgt⟩ := HTT.out
  have HGT := Lib.hid hgt
  have HG2 : Hid (∃ g2, w5.heap.size = g2) := ⟨_, rfl⟩
  obtain ⟨g2, hg2⟩ := HG2.out
  have HO6 : Hid (OwnT gT w6 gT n (List.replicate n false)) := by have := ho5.grow hb6; rw [hgt] at this; exact this
  have HX6 : Hid (BoxI w6 gR (List.replicate 8 0)) := Box.keep bx hb6
  have HB6 : Hid (Below gT w3 w6) := by have := hb5.trans (hb6.mono (by omega)); rw [hgt] at this; exact this
  rw [hg2] at ho6 hg5
  rw [hgt] at hgT ⊢
  rw [hg2]
  have HR6 : Hid (OwnG g2 w6 _ []) := ⟨ho6, by have := hb6.size; omega⟩
  have HGG : Hid (gT < gR ∧ gR < g2) := ⟨hgT, hg5⟩
  clear ho5 hb5 bx ho6 hb6 hgT hg5 hgt hg2 HTT HG2
  go_wp2_with fail
  go_loopw [12, 13, 50] (fun xc v x wr => ∃ (r : Nat) (cy : Int) (R : List Int) (tk : List Bool) (o : List Ins) (v0 : Value), r ≤ n ∧ x = .int .i64 r ∧ xc = .int .i64 cy ∧ v0 = v ∧ Hid (gr l (htF l) r = (tk, o)) ∧ Hid (tmF o = (cy + 1, R)) ∧ Hid (OwnT gT wr gT n tk) ∧ Hid (BoxI wr gR R) ∧ Hid (OwnG g2 wr v0 o) ∧ Hid (Below gT w3 wr)) (fun _ _ x _ => n - (intOf x).toNat)
  case atStart => exact ⟨0, -1, List.replicate 8 0, List.replicate n false, [], _, Nat.zero_le _, rfl, rfl, rfl, Lib.hid (by show (List.replicate l.length false, []) = _; rw [HN.out]), Lib.hid rfl, HO6, HX6, HR6, HB6⟩
  case round =>
   obtain ⟨r, cy, R, tk, o, v0, hr, rfl, rfl, rfl, HGR, HTM, HOT, HBX, HOR, HBW⟩ := hrel
   by_cases hrn : r < n
   ·obtain ⟨t1, t2, t3, t4, t5⟩ := HGI.out r (by have := HN.out; omega)
    rw [HGR.out] at t1 t2 t3 t4 t5
    obtain ⟨kb, hkb, hbe, htk⟩ := t5 (by have := HN.out; omega)
    simp only at hbe htk t1 t3
    rw [HTM.out] at hbe
    have htm := tmF_in o r
    rw [List.take_of_length_le (Nat.le_of_eq t3), HTM.out] at htm
    have hcy : -1 ≤ cy ∧ cy + 1 ≤ 4 * 512 := by have := htm.1; simp only at this; omega
    have HCY := Lib.hid hcy
    have HRB : Hid (InB R 8 (4 * 512)) := htm.2.le (by omega)
    have HTK : Hid (tk.length = n) := t1.trans HN.out
    have HOL : Hid (o.length = r) := t3
    have HKB : Hid (kb < n ∧ bestB l (htF l) (cy + 1, R) tk n = ((kb : Int), issF (cy + 1, R) (l.getD kb Ins.zero)) ∧ tk[kb]? = some false) := ⟨by have := HN.out; omega, by rw [← HN.out]; exact hbe, htk⟩
    clear t1 t2 t3 t4 t5 hkb hbe htk htm
    have q1 : (0 : Int) ≤ (r : Int) := by omega
    have q2 : (r : Int) < (n : Int) := by omega
    have wr1 : IntKind.i64.wrap ((r : Int) + 1) = ((r + 1 : Nat) : Int) := (IntWalk.i64_in _ (by omega)).trans (by omega)
    have wcy : IntKind.i64.wrap (cy + 1) = cy + 1 := IntWalk.i64_in _ (by omega)
    obtain ⟨wa, hwa⟩ : ∃ wa : World, wa = wr := ⟨_, rfl⟩
    have HBa : Hid (Below wr.heap.size wr wr) := Lib.hid (Below.refl _ _)
    rw [← hwa] at HOT HBX HOR HBW HBa
    rw [show Below wa.heap.size wa wa = Below wa.heap.size wa wr by rw [hwa]] at HBa
    clear hwa
    go_wp2_with fail
    go_step3
    go_wp2_with fail
    go_step3
    go_wp2_with fail
    go_loopw [14, 15, 54] (fun xb xf x wr => ∃ (m : Nat) (b1 b2 : Int), m ≤ n ∧ x = .int .i64 m ∧ xb = .int .i64 b1 ∧ xf = .int .i64 b2 ∧ Hid (bestB l (htF l) (cy + 1, R) tk m = (b1, b2)) ∧ Hid (Below wa.heap.size wa wr)) (fun _ _ x _ => n - (intOf x).toNat)
    case atStart => exact ⟨0, -1, 0, Nat.zero_le _, rfl, rfl, rfl, Lib.hid rfl, HBa⟩
    case round =>
     obtain ⟨m, b1, b2, hm, rfl, rfl, rfl, HBB, HBm⟩ := hrel
     by_cases hmn : m < n
     ·have HSP := bestB_spec l (htF l) (cy + 1, R) tk m
      rw [HBB.out] at HSP
      obtain ⟨y, hy⟩ : ∃ y, tk[m]? = some y := ⟨_, List.getElem?_eq_getElem (by rw [HTK.out]; exact hmn)⟩
      have HOTm := Lib.hid (HOT.out.grow HBm.out)
      have cT := HOTm.out.cell hy
      have HBS : Hid (bestB l (htF l) (cy + 1, R) tk (m + 1) = if freeF l tk m then (if betF l (htF l) (cy + 1, R) (b1, b2) m then ((m : Int), issF (cy + 1, R) (l.getD m Ins.zero)) else (b1, b2)) else (b1, b2)) := by
       show _ = _
       rw [bestB_succ, HBB.out]; rfl
      have p1 : (0 : Int) ≤ (m : Int) := by omega
      have p2 : (m : Int) < (n : Int) := by omega
      have wm : IntKind.i64.wrap ((m : Int) + 1) = ((m + 1 : Nat) : Int) := (IntWalk.i64_in _ (by omega)).trans (by omega)
      have HSP2 := Lib.hid HSP
      have HY := Lib.hid hy
      clear HSP hy
      cases y with
      | true =>
       have hff : freeF l tk m = false := by unfold freeF; rw [List.getD_eq_getElem?_getD, HY.out]; rfl
       have HFF := Lib.hid hff
       clear hff
       go_wp2_with fail
       go_roundw
       case rel => exact ⟨m + 1, b1, b2, by omega, rfl, rfl, rfl, Lib.hid (by show _ = _; rw [HBS.out, HFF.out]; rfl), HBm⟩
       case measure => simp [intOf]; omega
      | false =>
       have hff0 : freeF l tk m = (depRow l m m).all fun i => tk.getD i.toNat false := by
        unfold freeF; rw [List.getD_eq_getElem?_getD, HY.out]; rfl
       have HFF := Lib.hid hff0
       have HBX1 : Hid (BoxI wr gR R) := Box.keep HBX.out HBm.out
       have HBWm := Lib.hid (HGT.out ▸ (HBW.out.trans (HBm.out.mono (Nat.le_of_lt HOT.out.block.2))) : Below w3.heap.size w3 wr)
       obtain ⟨dd, RB, rc, rfl, hdc, hri⟩ := (HD.out.grow HBWm.out).row (HAT.out m hmn)
       have HRI := Lib.hid hri
       have hdm : ∀ v ∈ depRow l m m, ∃ i : Nat, i < m ∧ v = i := fun v hv => by
        obtain ⟨i, h1, h2, -⟩ := depRow_mem hv
        exact ⟨i, h1, h2⟩
       have HDM := Lib.hid hdm
       obtain ⟨ds, hds⟩ : ∃ ds, depRow l m m = ds := ⟨_, rfl⟩
       rw [hds] at HRI HDM HFF hdc
       obtain ⟨rn, hrnl⟩ : ∃ rn, ds.length = rn := ⟨_, rfl⟩
       have HRN := Lib.hid hrnl
       rw [hrnl] at hdc
       have hrn2 : rn ≤ 512 := by rw [← hrnl, ← hds]; have := depRow_len l m m; omega
       clear hri hdm hds hff0 hrnl
       go_wp2_with fail
       go_loopw [66] (fun x w' => ∃ k : Nat, k ≤ rn ∧ x = .int .i64 k ∧ Hid ((ds.take k).all (fun i => tk.getD i.toNat false) = true) ∧ wr = w') (fun x _ => rn - (intOf x).toNat)
       case atStart => exact ⟨0, Nat.zero_le _, rfl, Lib.hid rfl, rfl⟩
       case round =>
        obtain ⟨k, hk, rfl, HALL, rfl⟩ := hrel
        by_cases hkr : k < rn
        ·obtain ⟨rd, iv, rfl, hrb, hiv, hrc, -, -⟩ := HRI.out.at_ (k := k) (by rw [HRN.out]; exact hkr)
         obtain ⟨i, him, rfl⟩ := HDM.out iv (List.mem_of_getElem? hiv)
         obtain ⟨yi, hyi⟩ : ∃ y, tk[i]? = some y := ⟨_, List.getElem?_eq_getElem (by rw [HTK.out]; omega)⟩
         have cI := HOTm.out.cell hyi
         have HIV := Lib.hid hiv
         have HYI := Lib.hid hyi
         have s1 : (0 : Int) ≤ (k : Int) := by omega
         have s2 : (k : Int) < (rn : Int) := by omega
         have s3 : (0 : Int) ≤ (i : Int) := by omega
         have s4 : (i : Int) < (n : Int) := by omega
         have wk : IntKind.i64.wrap ((k : Int) + 1) = ((k + 1 : Nat) : Int) := (IntWalk.i64_in _ (by omega)).trans (by omega)
         clear hiv hyi hrb
         cases yi with
         | false =>
          have hff : freeF l tk m = false := by
           rw [HFF.out]
           exact all_false HIV.out (by rw [Int.toNat_natCast, List.getD_eq_getElem?_getD, HYI.out]; rfl)
          have HF2 := Lib.hid hff
          clear hff
          go_wp2_with fail
          go_roundw
          case rel => exact ⟨m + 1, b1, b2, by omega, rfl, rfl, rfl, Lib.hid (by show _ = _; rw [HBS.out, HF2.out]; rfl), HBm⟩
          case measure => simp [intOf]; omega
         | true =>
          go_wp2_with fail
          go_roundw
          case rel => exact ⟨k + 1, by omega, rfl, Lib.hid (by
           show _ = _
           rw [all_take HIV.out, HALL.out, Int.toNat_natCast, List.getD_eq_getElem?_getD, HYI.out]; rfl), by first | rfl | trivial⟩
          case measure => simp [intOf]; omega
        ·obtain rfl : k = rn := by omega
         have hlo : ¬ (k : Int) < (k : Int) := by omega
         have HF2 : Hid (freeF l tk m = true) := by
          show _ = _
          rw [HFF.out]
          have := HALL.out
          rwa [List.take_of_length_le (Nat.le_of_eq HRN.out)] at this
         clear HALL HFF hdc HRI HDM HAT
         obtain ⟨im, him⟩ : ∃ x, l[m]? = some x := ⟨_, List.getElem?_eq_getElem (by rw [HN.out]; exact hmn)⟩
         obtain ⟨ud, B, b, C, d, rfl, us, ub, hui, r1, -⟩ := (HU.out.grow HBWm.out) m im him
         have cU : wr.cell? (ud.add (m * 2)) = some (.slice B im.rd.length b) := by rw [add_noneI us]; exact hui 0 _ rfl
         have HR1 := Lib.hid r1
         have HRD := Lib.hid (rd_nat im)
         have hM := rdF_in HRB.out (by omega) im.rd (cy + 1) (by have := HCY.out; omega)
         have HME : Hid (issF (cy + 1, R) (l.getD m Ins.zero) = rdF R (cy + 1) im.rd) := by
          show _ = _
          rw [List.getD_eq_getElem?_getD, him]; rfl
         obtain ⟨un, hun⟩ : ∃ un, im.rd.length = un := ⟨_, rfl⟩
         have HUN := Lib.hid hun
         have hun2 : un ≤ 2 := hun ▸ rd_len im
         rw [hun] at cU
         clear us ub hui r1 him hun
         obtain ⟨rnn, hrnn⟩ : ∃ rnn : Nat, rnn = k := ⟨_, rfl⟩
         go_wp2_with fail
         go_loopw [19, 84] (fun nx x w' => ∃ (k : Nat) (M : Int), k ≤ un ∧ x = .int .i64 k ∧ nx = .int .i64 M ∧ Hid (rdF R (cy + 1) (im.rd.take k) = M) ∧ wr = w') (fun _ x _ => un - (intOf x).toNat)
         case atStart => exact ⟨0, cy + 1, Nat.zero_le _, rfl, rfl, Lib.hid rfl, rfl⟩
         case round =>
          obtain ⟨k, M, hk, rfl, rfl, HM, rfl⟩ := hrel
          by_cases hku : k < un
          ·obtain ⟨rd, sv, rfl, hrb, hsv, hrc, -, -⟩ := HR1.out.at_ (k := k) (by rw [HUN.out]; exact hku)
           have hs0 := HRD.out sv (List.mem_of_getElem? hsv)
           have HST : Hid (rdF R (cy + 1) (im.rd.take (k + 1)) = if sv < 8 then max M (R.getD sv.toNat 0) else M) := by
            show _ = _
            rw [take_snoc' hsv, rdF_snoc, HM.out]
           obtain ⟨s, rfl⟩ : ∃ s : Nat, sv = (s : Int) := ⟨sv.toNat, by omega⟩
           have s1 : (0 : Int) ≤ (k : Int) := by omega
           have s2 : (k : Int) < (un : Int) := by omega
           have wk : IntKind.i64.wrap ((k : Int) + 1) = ((k + 1 : Nat) : Int) := (IntWalk.i64_in _ (by omega)).trans (by omega)
           clear hsv hrb hs0
           by_cases hs8 : s < 8
           ·have s3 : (s : Int) < 8 := by omega
            have s4 : (0 : Int) ≤ (s : Int) := by omega
            obtain ⟨c5, c6⟩ := HBX1.out.cell HRB.out hs8
            have HST2 : Hid (rdF R (cy + 1) (im.rd.take (k + 1)) = max M (R.getD s 0)) := by
             show _ = _
             rw [HST.out, if_pos s3, Int.toNat_natCast]
            obtain ⟨mx, hmx⟩ : ∃ mx, max M (R.getD s 0) = mx := ⟨_, rfl⟩
            have HX2 := Lib.hid hmx
            rw [hmx] at HST2
            obtain ⟨rv, hrv⟩ : ∃ rv, R.getD s 0 = rv := ⟨_, rfl⟩
            have HRV := Lib.hid hrv
            rw [hrv] at c5
            clear hmx hrv c6
            go_wp2_with fail
            go_roundw
            case rel => exact ⟨k + 1, mx, by omega, rfl, by rw [← HRV.out, HX2.out], HST2, by first | rfl | trivial⟩
            case measure => simp [intOf]; omega
           ·have s3 : ¬ (s : Int) < 8 := by omega
            go_wp2_with fail
            go_roundw
            case rel => exact ⟨k + 1, M, by omega, rfl, rfl, Lib.hid (by show _ = _; rw [HST.out, if_neg s3]), by first | rfl | trivial⟩
            case measure => simp [intOf]; omega
          ·obtain rfl : k = un := by omega
           have hlo : ¬ (k : Int) < (k : Int) := by omega
           have hMe : rdF R (cy + 1) im.rd = M := by
            have := HM.out
            rw [List.take_of_length_le (Nat.le_of_eq HUN.out)] at this
            exact this
           rw [hMe] at HME hM
           clear hMe HM cU HR1 HRD
           obtain ⟨hd, hmv, rfl, -, hhm, hcm, -, -⟩ := (HH.out.grow HBWm.out).at_ (k := m) (by rw [HE5.out.1]; exact hmn)
           have hgm : (htF l).getD m 0 = hmv := by rw [List.getD_eq_getElem?_getD, hhm]; rfl
           have HGM := Lib.hid hgm
           clear hhm hgm hcm
           have HHB : Hid (∀ j, j < n → ∀ w', Below wr.heap.size wr w' → w'.cell? (hd.add j) = some (.int .i64 ((htF l).getD j 0))) := fun j hj w' hb => by
            obtain ⟨hd2, v2, e2, -, h5, h6, -, -⟩ := (HH.out.grow (below_then HBWm.out hb)).at_ (k := j) (by rw [HE5.out.1]; exact hj)
            obtain rfl : hd = hd2 := Option.some.inj e2
            rw [List.getD_eq_getElem?_getD, h5]; exact h6
           have hz1 : ∀ n : Ext wr, n.to.cell? (hd.add m) = some (.int .i64 hmv) := fun n => by rw [← HGM.out]; exact HHB.out m hmn _ n.below
           have HZ1 := Lib.hid hz1
           clear hz1
           go_upto_region 29 with fail
           rcases HSP2.out with ⟨hbb, -⟩ | ⟨kk, hkk, hbb, -⟩
           ·obtain ⟨rfl, rfl⟩ : b1 = -1 ∧ b2 = 0 := Prod.mk.inj hbb
            clear hbb
            have HBT : Hid (betF l (htF l) (cy + 1, R) ((-1), 0) m = true) := by
             show (decide ((-1) < 0) || decide (issF (cy + 1, R) (l.getD m Ins.zero) < 0) || (decide (issF (cy + 1, R) (l.getD m Ins.zero) = 0) && decide ((htF l).getD ((-1) : Int).toNat 0 < (htF l).getD m 0))) = true
             rw [HME.out]
             rfl
            refine wp_region_ext (by kernel_rfl) (by kernel_rfl) ?_
            repeat (go_big_quiet_step (fail))
            refine wpQuiet_nil ?_
            rintro _ ⟨⟨w9, hb9⟩, rfl⟩
            have HB9 := Lib.hid (below_then HBm.out hb9)
            clear hb9
            go_wp2_with fail
            go_roundw
            case rel => exact ⟨m + 1, (m : Int), M, by omega, rfl, rfl, rfl, Lib.hid (by
             show _ = _
             rw [HBS.out, HF2.out, HBT.out, HME.out]; rfl), HB9⟩
            case measure => simp [intOf]; omega
           ·obtain ⟨rfl, hb2e⟩ : b1 = (kk : Int) ∧ b2 = _ := Prod.mk.inj hbb
            clear hbb hb2e
            have d0 : decide ((kk : Int) < 0) = false := decide_eq_false (by omega)
            have t1 : ¬ (kk : Int) < 0 := by omega
            by_cases hB : M < b2
            ·have dB : decide (M < b2) = true := decide_eq_true hB
             have HBT : Hid (betF l (htF l) (cy + 1, R) ((kk : Int), b2) m = true) := by
              show (decide ((kk : Int) < 0) || decide (issF (cy + 1, R) (l.getD m Ins.zero) < b2) || (decide (issF (cy + 1, R) (l.getD m Ins.zero) = b2) && decide ((htF l).getD ((kk : Int) : Int).toNat 0 < (htF l).getD m 0))) = true
              rw [HME.out]
              rw [d0, dB]; rfl
             refine wp_region_ext (by kernel_rfl) (by kernel_rfl) ?_
             repeat (go_big_quiet_step (fail))
             refine wpQuiet_nil ?_
             rintro _ ⟨⟨w9, hb9⟩, rfl⟩
             have HB9 := Lib.hid (below_then HBm.out hb9)
             clear hb9
             go_wp2_with fail
             go_roundw
             case rel => exact ⟨m + 1, (m : Int), M, by omega, rfl, rfl, rfl, Lib.hid (by
              show _ = _
              rw [HBS.out, HF2.out, HBT.out, HME.out]; rfl), HB9⟩
             case measure => simp [intOf]; omega
            ·have dB : decide (M < b2) = false := decide_eq_false hB
             by_cases hC : M = b2
             ·subst hC
              have t2 : (0 : Int) ≤ (kk : Int) := by omega
              have t3 : (kk : Int) < (n : Int) := by omega
              have hz1 := HZ1.out
              obtain ⟨hkv, hhk⟩ : ∃ hkv, (htF l).getD kk 0 = hkv := ⟨_, rfl⟩
              have HGK := Lib.hid hhk
              have hz2 : ∀ n : Ext wr, n.to.cell? (hd.add kk) = some (.int .i64 hkv) := fun n => by rw [← HGK.out]; exact HHB.out kk (by omega) _ n.below
              clear hhk
              by_cases hD : hkv < hmv
              ·have dD : decide (hkv < hmv) = true := decide_eq_true hD
               have HBT : Hid (betF l (htF l) (cy + 1, R) ((kk : Int), M) m = true) := by
                show (decide ((kk : Int) < 0) || decide (issF (cy + 1, R) (l.getD m Ins.zero) < M) || (decide (issF (cy + 1, R) (l.getD m Ins.zero) = M) && decide ((htF l).getD ((kk : Int) : Int).toNat 0 < (htF l).getD m 0))) = true
                rw [HME.out]
                rw [d0, dB, Int.toNat_natCast, HGK.out, HGM.out, dD, decide_eq_true (rfl : M = M)]; rfl
               refine wp_region_ext (by kernel_rfl) (by kernel_rfl) ?_
               repeat (go_big_quiet_step (fail))
               refine wpQuiet_nil ?_
               rintro _ ⟨⟨w9, hb9⟩, rfl⟩
               have HB9 := Lib.hid (below_then HBm.out hb9)
               clear hb9
               go_wp2_with fail
               go_roundw
               case rel => exact ⟨m + 1, (m : Int), M, by omega, rfl, rfl, rfl, Lib.hid (by
                show _ = _
                rw [HBS.out, HF2.out, HBT.out, HME.out]; rfl), HB9⟩
               case measure => simp [intOf]; omega
              ·have dD : decide (hkv < hmv) = false := decide_eq_false hD
               have HBT : Hid (betF l (htF l) (cy + 1, R) ((kk : Int), M) m = false) := by
                show (decide ((kk : Int) < 0) || decide (issF (cy + 1, R) (l.getD m Ins.zero) < M) || (decide (issF (cy + 1, R) (l.getD m Ins.zero) = M) && decide ((htF l).getD ((kk : Int) : Int).toNat 0 < (htF l).getD m 0))) = false
                rw [HME.out]
                rw [d0, dB, Int.toNat_natCast, HGK.out, HGM.out, dD]; simp
               refine wp_region_ext (by kernel_rfl) (by kernel_rfl) ?_
               repeat (go_big_quiet_step (fail))
               refine wpQuiet_nil ?_
               rintro _ ⟨⟨w9, hb9⟩, rfl⟩
               have HB9 := Lib.hid (below_then HBm.out hb9)
               clear hb9
               go_wp2_with fail
               go_roundw
               case rel => exact ⟨m + 1, (kk : Int), M, by omega, rfl, rfl, rfl, Lib.hid (by
                show _ = _
                rw [HBS.out, HF2.out, HBT.out]; rfl), HB9⟩
               case measure => simp [intOf]; omega
             ·have dC : decide (M = b2) = false := decide_eq_false hC
              have eC : (M == b2) = false := by simpa using hC
              have HBT : Hid (betF l (htF l) (cy + 1, R) ((kk : Int), b2) m = false) := by
               show (decide ((kk : Int) < 0) || decide (issF (cy + 1, R) (l.getD m Ins.zero) < b2) || (decide (issF (cy + 1, R) (l.getD m Ins.zero) = b2) && decide ((htF l).getD ((kk : Int) : Int).toNat 0 < (htF l).getD m 0))) = false
               rw [HME.out]
               rw [d0, dB, dC]; rfl
              refine wp_region_ext (by kernel_rfl) (by kernel_rfl) ?_
              repeat (go_big_quiet_step (fail))
              refine wpQuiet_nil ?_
              rintro _ ⟨⟨w9, hb9⟩, rfl⟩
              have HB9 := Lib.hid (below_then HBm.out hb9)
              clear hb9
              go_wp2_with fail
              go_roundw
              case rel => exact ⟨m + 1, (kk : Int), b2, by omega, rfl, rfl, rfl, Lib.hid (by
               show _ = _
               rw [HBS.out, HF2.out, HBT.out]; rfl), HB9⟩
              case measure => simp [intOf]; omega
     ·obtain rfl : m = n := by omega
      have hlo : ¬ (m : Int) < (m : Int) := by omega
      obtain ⟨ib, hib⟩ : ∃ x, l[kb]? = some x := ⟨_, List.getElem?_eq_getElem (by rw [HN.out]; exact HKB.out.1)⟩
      have hgd : l.getD kb Ins.zero = ib := by rw [List.getD_eq_getElem?_getD, hib]; rfl
      have HKE := Lib.hid (Prod.mk.inj (HBB.out.symm.trans HKB.out.2.1))
      obtain ⟨hk1, hk2⟩ := HKE.out
      subst hk1
      have hM := rdF_in HRB.out (by omega) ib.rd (cy + 1) (by have := HCY.out; omega)
      have hk3 : b2 = rdF R (cy + 1) ib.rd := hk2.trans (by rw [hgd]; rfl)
      rw [← hk3] at hM
      have HIV := Lib.hid hk3
      have HGS : Hid (gr l (htF l) (r + 1) = (tk.set kb true, o ++ [ib])) := by
       have := gr_succ (l := l) (H := htF l) (r := r) (k := kb) (f := b2) (by
        rw [HGR.out, HN.out]
        show bestB l (htF l) (tmF o) tk m = _
        rw [HTM.out]; exact HBB.out)
       rw [HGR.out, hgd] at this
       exact this
      have HTS : Hid (tmF (o ++ [ib]) = (b2 + 1, wrF R (b2 + 1 + delayF ib.op) ib.wt)) := by
       show _ = _
       rw [tmF_snoc, HTM.out, HIV.out]; rfl
      have HIB := Lib.hid hib
      have hdl := delayF_in ib.op
      have CDl : Hid (∀ w, Calls Tryd.prog 83 #[.int .i64 ib.op] w fun e w' => e = .returned (.int .i64 (delayF ib.op)) ∧ w = w') := fun w => sc_delay ib.op w
      obtain ⟨dl, hdle⟩ : ∃ dl, delayF ib.op = dl := ⟨_, rfl⟩
      rw [hdle] at HTS hdl CDl
      obtain ⟨op, hop⟩ : ∃ op, ib.op = op := ⟨_, rfl⟩
      rw [hop] at CDl
      have HOP := Lib.hid hop
      have HKBL := Lib.hid HKB.out.1
      have hkbl : kb < m := HKB.out.1
      have HOTm := Lib.hid (HOT.out.grow HBm.out)
      have HOR1 := Lib.hid (HOR.out.grow HBm.out)
      have HBX1 : Hid (BoxI wr gR R) := Box.keep HBX.out HBm.out
      have HBW1 := Lib.hid (HBW.out.trans (HBm.out.mono (Nat.le_of_lt HOT.out.block.2)))
      have cT := HOTm.out.cell HKB.out.2.2
      have fT := HOTm.out.free kb
      have t1 : (0 : Int) ≤ (kb : Int) := by omega
      have t2 : (kb : Int) < (m : Int) := by omega
      clear HKE hk2 hk3 hgd hib hdle hop HBB HKB HOT HOR HBX HBW HBm
      go_upto_region 33 with fail
      have HOT7 := Lib.hid (HOTm.out.set kb true)
      have HOR7 := Lib.hid (HOR1.out.store (g := gT) (k := kb) (u := .bool true) (by have := HGG.out; omega))
      have HBX7 : Hid (BoxI (wr.setCell ⟨gT, kb, none⟩ (.bool true)) gR R) := Box.past HBX1.out (by have := HGG.out; omega)
      have HBW7 := Lib.hid (below_set (k := kb) (u := .bool true) HBW1.out (Nat.le_refl gT))
      generalize wr.setCell ⟨gT, kb, none⟩ (.bool true) = w7 at HOT7 HOR7 HBX7 HBW7 ⊢
      clear cT fT HOTm HOR1 HBX1 HBW1
      obtain ⟨ud, B, b, C, d, rfl, us, ub, hui, -, r2⟩ := (HU.out.grow (HGT.out ▸ HBW7.out)) kb ib HIB.out
      have cU : w7.cell? ⟨(ud.add (kb * 2)).block, (ud.add (kb * 2)).off + 1, none⟩ = some (.slice C ib.wt.length d) := by rw [add_noneI us]; exact hui 1 _ rfl
      have HUC : Hid (∀ w', Below gT w3 w' → Ints w' C ib.wt) := fun w' hb => by
       obtain ⟨ud2, B2, bb2, C2, d2, e2, us2, ub2, hui2, -, r22⟩ := HU.out kb ib HIB.out
       obtain rfl : ud = ud2 := Option.some.inj e2
       have h1 : w7.cell? ⟨ud.block, ud.off + kb * 2 + 1, none⟩ = some (.slice C2 ib.wt.length d2) := ((HGT.out ▸ HBW7.out : Below w3.heap.size w3 w7).cell (p := ⟨ud.block, ud.off + kb * 2 + 1, none⟩) ub2).trans (hui2 1 _ rfl)
       have h2 : w7.cell? ⟨ud.block, ud.off + kb * 2 + 1, none⟩ = some (.slice C ib.wt.length d) := hui 1 _ rfl
       rw [h1] at h2
       injection h2 with h2
       injection h2 with h2
       subst h2
       exact r22.grow (HGT.out ▸ hb)
      have HWT := Lib.hid (wt_nat ib)
      obtain ⟨un, hun⟩ : ∃ un, ib.wt.length = un := ⟨_, rfl⟩
      have HUN := Lib.hid hun
      have hun2 : un ≤ 1 := hun ▸ wt_len ib
      rw [hun] at cU
      clear us ub hui r2 hun
      have v1 : IntKind.i64.wrap (b2 + 1) = b2 + 1 := IntWalk.i64_in _ (by omega)
      have v2 : IntKind.i64.wrap (b2 + 1 + dl) = b2 + 1 + dl := IntWalk.i64_in _ (by omega)
      have HRB2 : Hid (InB R 8 (4 * 512 + 8)) := HRB.out.le (by omega)
      obtain ⟨wv, hwv⟩ : ∃ wv : World, wv = w7 := ⟨_, rfl⟩
      go_wp2_with fail
      go_loopw [132] (fun x wr => ∃ k : Nat, k ≤ un ∧ x = .int .i64 k ∧ Hid (BoxI wr gR (wrF R (b2 + 1 + dl) (ib.wt.take k))) ∧ Hid (OwnT gT wr gT m (tk.set kb true)) ∧ Hid (OwnG g2 wr v0 o) ∧ Hid (Below gT w3 wr)) (fun x _ => un - (intOf x).toNat)
      case atStart => exact ⟨0, Nat.zero_le _, rfl, HBX7, HOT7, HOR7, HBW7⟩
      case round =>
       obtain ⟨k, hk, rfl, HBX8, HOT8, HOR8, HBW8⟩ := hrel
       by_cases hku : k < un
       ·obtain ⟨wd, sv, rfl, hrb, hsv, hrc, -, -⟩ := (HUC.out _ HBW8.out).at_ (k := k) (by rw [HUN.out]; exact hku)
        have hs0 := HWT.out sv (List.mem_of_getElem? hsv)
        have HST : Hid (wrF R (b2 + 1 + dl) (ib.wt.take (k + 1)) = if sv < 8 then (wrF R (b2 + 1 + dl) (ib.wt.take k)).set sv.toNat (b2 + 1 + dl) else wrF R (b2 + 1 + dl) (ib.wt.take k)) := by
         show _ = _
         rw [take_snoc' hsv, wrF_snoc]
        have HIBm := Lib.hid (wrF_in (v := b2 + 1 + dl) (B := 4 * 512 + 8) (by omega) (ib.wt.take k) R HRB2.out)
        obtain ⟨R5, hR5⟩ : ∃ R5, wrF R (b2 + 1 + dl) (ib.wt.take k) = R5 := ⟨_, rfl⟩
        rw [hR5] at HBX8 HST HIBm
        obtain ⟨s, rfl⟩ : ∃ s : Nat, sv = (s : Int) := ⟨sv.toNat, by omega⟩
        have s1 : (0 : Int) ≤ (k : Int) := by omega
        have s2 : (k : Int) < (un : Int) := by omega
        have wk : IntKind.i64.wrap ((k : Int) + 1) = ((k + 1 : Nat) : Int) := (IntWalk.i64_in _ (by omega)).trans (by omega)
        clear hR5 hsv hrb hs0
        by_cases hs8 : s < 8
        ·have s3 : (s : Int) < 8 := by omega
         have s4 : (0 : Int) ≤ (s : Int) := by omega
         obtain ⟨c5, c6⟩ := HBX8.out.cell HIBm.out hs8
         obtain ⟨ad, rfl, -, -, -, -⟩ := HI0.out kb ib HIB.out
         have f5 := ins_opA (HI0.out.grow (HGT.out ▸ HBW8.out)) HIB.out rfl
         rw [HOP.out] at f5
         go_upto_region 39 with (go_at_call 83; (with_reducible refine (CDl.out _).mono ?_); rintro e1 w9 ⟨rfl, rfl⟩)
         have HBX9 := Lib.hid (HBX8.out.set HIBm.out (s := s) hs8 (b2 + 1 + dl))
         have HOT9 := Lib.hid (HOT8.out.other (g' := gR) (k := s) (u := .int .i64 (b2 + 1 + dl)) (by have := HGG.out; omega))
         have HOR9 := Lib.hid (HOR8.out.store (g := gR) (k := s) (u := .int .i64 (b2 + 1 + dl)) HGG.out.2)
         have HBW9 := Lib.hid (below_set (k := s) (u := .int .i64 (b2 + 1 + dl)) HBW8.out (Nat.le_of_lt HGG.out.1))
         clear c5 c6 f5
         go_wp2_with fail
         go_roundw
         case rel => exact ⟨k + 1, by omega, rfl, Lib.hid (by show BoxI _ gR _; rw [HST.out, if_pos (by omega), Int.toNat_natCast]; exact HBX9.out), HOT9, HOR9, HBW9⟩
         case measure => simp [intOf]; omega
        ·have s3 : ¬ (s : Int) < 8 := by omega
         go_wp2_with fail
         go_roundw
         case rel => exact ⟨k + 1, by omega, rfl, Lib.hid (by show BoxI wr gR _; rw [HST.out, if_neg (by omega)]; exact HBX8.out), HOT8, HOR8, HBW8⟩
         case measure => simp [intOf]; omega
       ·obtain rfl : k = un := by omega
        have hlo : ¬ (k : Int) < (k : Int) := by omega
        have hie := HI0.out.grow (HGT.out ▸ HBW8.out)
        obtain ⟨ad, rfl, hs, hb, hir, oki⟩ := hie kb ib HIB.out
        have HIS := Lib.hid hs
        have HIR := Lib.hid hir
        have HSA : Hid (InsAt (wr.alloc (.cells ib.cells.toArray 109)) (some ⟨wr.heap.size, 0, none⟩) [ib]) := by
         obtain ⟨A1, c1, e1, -, h1⟩ := (OwnIR.single (w := wr) oki).form
         injection e1 with e1
         rw [e1]; exact h1
        have ha := (Below.refl wr.heap.size wr).alloc (Nat.le_refl _) (.cells ib.cells.toArray 109)
        have HOA := Lib.hid (HOR8.out.grow ha)
        clear hie hs hb hir oki
        go_upto_region 41 with (first
         | ((with_reducible show wpList _ _ _ (Oper.mk (some 154) (.load _ _) _ _ _ _ :: _) _ _); refine ld_insA HIS.out HIR.out rfl _ rfl rfl ?_)
         | ((with_reducible show wpList _ _ _ (Oper.mk (some 155) _ _ _ _ _ :: _) _ _); refine bld_ins1 (i := ib) rfl _ rfl rfl ?_)
         | ((with_reducible show wpList _ _ _ (Oper.mk (some 156) _ _ _ _ _ :: _) _ _); refine app_ins (wr.alloc (.cells ib.cells.toArray 109)) rfl _ _ rfl g2 (m := [ib]) rfl rfl HOA.out.1 HSA.out rfl (by rw [HOL.out]; omega) HOA.out.2 ?_; intro v10 w10 ho10 hb10))
        have HOT10 := Lib.hid ((HOT8.out.grow ha).underG hb10 (by have := HGG.out; omega))
        have HBX10 := Lib.hid (BoxI.under (Box.keep HBX8.out ha) hb10 HGG.out.2)
        have hgr : gT ≤ wr.heap.size := Nat.le_of_lt HOT8.out.block.2
        have HBW10 := Lib.hid ((HBW8.out.trans (ha.mono hgr)).trans (hb10.mono (by have := HGG.out; omega)))
        have HOR10 : Hid (OwnG g2 w10 v10 (o ++ [ib])) := ⟨ho10, Nat.le_trans HOA.out.2 hb10.size⟩
        have hbx := HBX10.out
        rw [List.take_of_length_le (Nat.le_of_eq HUN.out)] at hbx
        have HBX11 := Lib.hid hbx
        clear ho10 hb10 ha hgr hbx
        go_wp2_with fail
        go_roundw
        case rel => exact ⟨r + 1, b2, _, tk.set kb true, o ++ [ib], v10, by omega, rfl, rfl, rfl, HGS, HTS, HOT10, HBX11, HOR10, HBW10⟩
        case measure => simp [intOf]; omega
   ·obtain rfl : r = n := by omega
    have hlo : ¬ (r : Int) < (r : Int) := by omega
    go_wp2_with fail
    go_ret2
    have hgF : grF l = o := by unfold grF; rw [HN.out, HGR.out]
    rw [hgF]
    exact ⟨_, rfl, HOR.out.1.base (by have := HB0.out.size; have := HGT.out; have := HGG.out; omega), below_then HB0.out (HGT.out ▸ HBW.out)⟩
 ·have hfl : fineF l = false := by simpa using hfl
  have e1 : depD l = [] := by unfold depD; rw [hfl]; rfl
  have e2 : depE l = 21 := by unfold depE; rw [hfl]; rfl
  have e3 : grD l = [] := by unfold grD; rw [hfl]; rfl
  rw [e1, e2] at CD
  rw [e2, e3]
  clear h hn hfl h9 e1 e2 e3 hf
  go_enter Tryd.func55, Tryd.ntmps55
  go_wp2_with (go_at_call 80; (with_reducible refine CD.out.mono ?_); rintro e1 w1 ⟨DA, dc, rfl, hd, hb1⟩)
  go_ret2
  exact ⟨_, rfl, OwnIR.nil, hb1⟩
end Go.Proofs.YtdiflpbioohddaaDoor
