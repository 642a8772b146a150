/- Depends of package schedule and of the reference. -/
import Derived.Test.YtpmbgcfnehplaaaDoorE10
import Derived.Test.YtpmbgcfnehplaaaDoorI1
import Derived.Test.YtpmbgcfnehplaaaDoorPv
set_option linter.unusedVariables false
set_option linter.unusedSimpArgs false
namespace Go.Proofs.YtpmbgcfnehplaaaDoor
open Go.RowKit

/-- On which of the first m instructions does instruction j depend? -/
def depRow (l : List Ins) (j m : Nat) : List Int := ((List.range m).filter fun i => depF (l.getD i Ins.zero) (l.getD j Ins.zero)).map fun i : Nat => (i : Int)
theorem depRow_zero (l : List Ins) (j : Nat) : depRow l j 0 = [] := rfl
theorem depRow_succ (l : List Ins) (j m : Nat) : depRow l j (m + 1) = if depF (l.getD m Ins.zero) (l.getD j Ins.zero) then depRow l j m ++ [(m : Int)] else depRow l j m := by
  unfold depRow
  rw [List.range_succ, List.filter_append]
  by_cases h : depF (l.getD m Ins.zero) (l.getD j Ins.zero) = true
  · simp only [List.filter_cons, List.filter_nil, h, if_true, List.map_append, List.map_cons, List.map_nil]
  · simp only [List.filter_cons, List.filter_nil, h, if_false, List.append_nil]
    simp
theorem depRow_len (l : List Ins) (j m : Nat) : (depRow l j m).length ≤ m := by
  unfold depRow
  rw [List.length_map]
  exact Nat.le_trans (List.length_filter_le _ _) (by simp)
theorem depRow_mem {l : List Ins} {j m : Nat} {v : Int} (h : v ∈ depRow l j m) : ∃ i : Nat, i < m ∧ v = i ∧ depF (l.getD i Ins.zero) (l.getD j Ins.zero) = true := by
  unfold depRow at h
  obtain ⟨i, hi, rfl⟩ := List.mem_map.1 h
  obtain ⟨h1, h2⟩ := List.mem_filter.1 hi
  exact ⟨i, List.mem_range.1 h1, rfl, h2⟩
/-- The rows when t of them are done. -/
def depT (l : List Ins) (n t : Nat) : List (List Int) := (List.range n).map fun j => if j < t then depRow l j j else []
theorem depT_length (l : List Ins) (n t : Nat) : (depT l n t).length = n := by simp [depT]
theorem depT_at {l : List Ins} {n t j : Nat} (hj : j < n) : (depT l n t)[j]? = some (if j < t then depRow l j j else []) := by
  simp only [depT, List.getElem?_map, List.getElem?_range hj]; rfl
theorem depT_zero (l : List Ins) (n : Nat) : depT l n 0 = List.replicate n [] := by
  apply List.ext_getElem?
  intro i
  rw [List.getElem?_replicate]
  by_cases h : i < n
  · rw [depT_at h, if_pos h, if_neg (by omega)]
  · rw [if_neg h, List.getElem?_eq_none (by rw [depT_length]; omega)]
theorem depT_set (l : List Ins) (n t : Nat) : (depT l n t).set t (depRow l t t) = depT l n (t + 1) := by
  apply List.ext_getElem?
  intro i
  rw [List.getElem?_set, depT_length]
  by_cases h : i < n
  · rw [depT_at h, depT_at h]
    by_cases e : t = i
    · subst e; rw [if_pos rfl, if_pos h, if_pos (by omega)]
    · rw [if_neg e]
      by_cases h2 : i < t
      · rw [if_pos h2, if_pos (by omega)]
      · rw [if_neg h2, if_neg (by omega)]
  · have e1 : (depT l n t)[i]? = none := List.getElem?_eq_none (by rw [depT_length]; omega)
    have e2 : (depT l n (t + 1))[i]? = none := List.getElem?_eq_none (by rw [depT_length]; omega)
    rw [e1, e2]
    by_cases e : t = i
    · subst e; simp [h]
    · rw [if_neg e]
theorem depT_start (l : List Ins) (n t : Nat) : (depT l n t).set t [] = depT l n t := by
  apply List.ext_getElem?
  intro i
  rw [List.getElem?_set, depT_length]
  by_cases e : t = i
  · subst e
    rw [if_pos rfl]
    by_cases h : t < n
    · rw [if_pos h, depT_at h, if_neg (by omega)]
    · rw [if_neg h, List.getElem?_eq_none (by rw [depT_length]; omega)]
  · rw [if_neg e]
def depsF (l : List Ins) : List (List Int) := depT l l.length l.length
/-- What Depends hands back. -/
def depD (l : List Ins) : List (List Int) := if fineF l then depsF l else []
theorem I64_nat {k : Nat} (h : k ≤ 1000000000) : I64 (k : Int) := by unfold I64; omega
theorem qld_insA {ops : Array Oper} {rest : List Oper} {o : Oper} {a : Act} {Q : Act → Prop} {W : World} {i : Ins} {ad : Addr} {n : Nat} (hs : ad.spot = none) (hb : ad.block < W.heap.size) (hr : W.rangeAt ad.block (ad.off + n) i.cells) (hw : Region.wanted o (yielded ops a.tmps) = true) (x : Operand) (ho : o.op = .load 48 x) (hx : a.eval x = .pointer (some (ad.add n))) (h : wpQuiet Tryd.prog ops (fun w' => ∃ n : Ext W, w' = n.to) Q rest (a.put o.dst i.v)) : wpQuiet Tryd.prog ops (fun w' => ∃ n : Ext W, w' = n.to) Q (o :: rest) a := by
  obtain ⟨d, h1, h2⟩ := row_ins
  rw [add_noneI hs] at hx
  exact qld_mid hw _ x ho ad.block (ad.off + n) hx i.cells d (fun w hw' => by obtain ⟨n, rfl⟩ := hw'; exact range_keepI hr hb n.below) h1 h2 size_ins h
theorem qld_useA {ops : Array Oper} {rest : List Oper} {o : Oper} {a : Act} {Q : Act → Prop} {W : World} {B C : Option Addr} {a1 b c d1 : Nat} {ad : Addr} {n : Nat} (hs : ad.spot = none) (hb : ad.block < W.heap.size) (hr : W.rangeAt ad.block (ad.off + n) [.slice B a1 b, .slice C c d1]) (hw : Region.wanted o (yielded ops a.tmps) = true) (x : Operand) (ho : o.op = .load 77 x) (hx : a.eval x = .pointer (some (ad.add n))) (h : wpQuiet Tryd.prog ops (fun w' => ∃ n : Ext W, w' = n.to) Q rest (a.put o.dst (useV B a1 b C c d1))) : wpQuiet Tryd.prog ops (fun w' => ∃ n : Ext W, w' = n.to) Q (o :: rest) a := by
  obtain ⟨d, h1, h2⟩ := row_use
  rw [add_noneI hs] at hx
  exact qld_mid hw _ x ho ad.block (ad.off + n) hx [.slice B a1 b, .slice C c d1] d (fun w hw' => by obtain ⟨n, rfl⟩ := hw'; exact range_keepI hr hb n.below) h1 h2 size_use h
set_option maxRecDepth 100000 in
set_option maxHeartbeats 4000000 in
theorem sc_Depends (A : Option Addr) (n c : Nat) (l : List Ins) (w : World) (hf : FormsAt w) (h : InsAt w A l) (hn : l.length = n) (h9 : n ≤ 9223372036854775807) : Calls Tryd.prog 28 #[.slice A n c] w (RetIntsL w (depD l) (depE l)) := by
  by_cases hfl : fineF l = true
  · have CE : Hid (Calls Tryd.prog 34 #[.slice A n c] w fun e w' => ∃ UA uc, e = .returned (.tuple #[.slice UA n uc, .int .i64 0]) ∧ UsesAt w' UA l ∧ Below w.heap.size w w') := by
      refine (sc_uses A n c l w hf h hn h9).mono ?_
      rintro e w' ⟨⟨UA, uc, he, hu⟩, hb⟩
      unfold depE at he
      rw [if_pos hfl, if_pos hfl, hn] at he
      exact ⟨UA, uc, he, hu hfl, hb⟩
    have hn512 : n ≤ 512 := by
      unfold fineF inB at hfl
      rw [Bool.and_eq_true, Bool.and_eq_true, decide_eq_true_eq, decide_eq_true_eq, hn] at hfl
      omega
    have HI := Lib.hid h
    have HN := Lib.hid hn
    have HFL := Lib.hid hfl
    clear h hn hf hfl h9
    go_enter Tryd.func28, Tryd.ntmps28
    go_upto_region 4 with (go_at_call 34; (with_reducible refine CE.out.mono ?_); rintro e1 w1 ⟨UA, uc, rfl, hu, hb1⟩)
    have HU := Lib.hid hu
    have HB1 := Lib.hid hb1
    have HI1 := Lib.hid (HI.out.grow hb1)
    clear hu hb1 HI CE
    go_upto_region 5 with ((with_reducible show wpList _ _ _ (Oper.mk (some 19) _ _ _ _ _ :: _) _ _); refine mk_intD rfl _ _ rfl n rfl rfl rfl (by omega) ?_; intro w2 ho2 hb2)
    have HO2 : Hid (OwnD w1.heap.size w2 w1.heap.size n (depT l n 0)) := by rw [depT_zero]; exact ho2
    have HB2 := Lib.hid hb2
    have HG : Hid (∃ g, w1.heap.size = g) := ⟨_, rfl⟩
    obtain ⟨g, hg⟩ := HG.out
    have HGG := Lib.hid hg
    rw [hg] at HO2 HB2 ⊢
    clear ho2 hb2 hg HG
    go_wp2_with fail
    go_loopw [22] (fun x wr => ∃ t : Nat, t ≤ n ∧ x = .int .i64 t ∧ Hid (OwnD g wr g n (depT l n t)) ∧ Hid (Below g w1 wr)) (fun x _ => n - (intOf x).toNat)
    case atStart => exact ⟨0, Nat.zero_le _, rfl, HO2, HB2⟩
    case round =>
      obtain ⟨t, ht, rfl, HO, HB⟩ := hrel
      by_cases hlt : t < n
      · obtain ⟨j, hj⟩ : ∃ j, l[t]? = some j := ⟨_, List.getElem?_eq_getElem (by rw [HN.out]; exact hlt)⟩
        have HJ := Lib.hid hj
        clear hj
        have q1 : (0 : Int) ≤ (t : Int) := by omega
        have q2 : (t : Int) < (n : Int) := by omega
        have wt : IntKind.i64.wrap ((t : Int) + 1) = ((t + 1 : Nat) : Int) := (IntWalk.i64_in _ (by omega)).trans (by omega)
        have HOS : Hid (OwnD g wr g n ((depT l n t).set t (depRow l t 0))) := by rw [depRow_zero, depT_start]; exact HO
        obtain ⟨wo, hwo⟩ : ∃ wo : World, wo = wr := ⟨_, rfl⟩
        clear HO
        go_wp2_with fail
        go_loopw [26] (fun x wr => ∃ m : Nat, m ≤ t ∧ x = .int .i64 m ∧ Hid (OwnD g wr g n ((depT l n t).set t (depRow l t m))) ∧ Hid (Below g w1 wr)) (fun x _ => t - (intOf x).toNat)
        case atStart => exact ⟨0, Nat.zero_le _, rfl, HOS, HB⟩
        case round =>
          obtain ⟨m, hm, rfl, HO, HB⟩ := hrel
          by_cases hmt : m < t
          · obtain ⟨i, hi⟩ : ∃ i, l[m]? = some i := ⟨_, List.getElem?_eq_getElem (by rw [HN.out]; omega)⟩
            have p1 : (0 : Int) ≤ (m : Int) := by omega
            have p2 : (m : Int) < (n : Int) := by omega
            have p3 : (m : Int) < (t : Int) := by omega
            have wm : IntKind.i64.wrap ((m : Int) + 1) = ((m + 1 : Nat) : Int) := (IntWalk.i64_in _ (by omega)).trans (by omega)
            have hIr := HI1.out.grow (HGG.out ▸ HB.out)
            have hUr := HU.out.grow (HGG.out ▸ HB.out)
            obtain ⟨ad, rfl, hs, hb, hri, oki⟩ := hIr m i hi
            obtain ⟨ad2, e2, -, -, hrj, okj⟩ := hIr t j HJ.out
            obtain rfl : ad = ad2 := Option.some.inj e2
            obtain ⟨ud, B, b, C, d, rfl, us, ub, hui, r1, r2⟩ := hUr m i hi
            obtain ⟨ud2, B', b', C', d', e3, -, -, huj, r3, r4⟩ := hUr t j HJ.out
            obtain rfl : ud = ud2 := Option.some.inj e3
            have CD : Hid (∀ w1, Below wr.heap.size wr w1 → Calls Tryd.prog 44 #[i.v, j.v, useV B i.rd.length b C i.wt.length d, useV B' j.rd.length b' C' j.wt.length d'] w1 fun e w' => e = .returned (.bool (depF i j)) ∧ Below w1.heap.size w1 w') :=
              fun w1 hb => sc_depends i j B C B' C' _ _ _ _ _ _ _ _ w1 (r1.grow hb) (r2.grow hb) (r3.grow hb) (r4.grow hb) rfl rfl rfl rfl
            have D1 : Hid (ad.spot = none ∧ ad.block < wr.heap.size ∧ wr.rangeAt ad.block (ad.off + m * 4) i.cells ∧ wr.rangeAt ad.block (ad.off + t * 4) j.cells) := ⟨hs, hb, hri, hrj⟩
            have D2 : Hid (ud.spot = none ∧ ud.block < wr.heap.size ∧ wr.rangeAt ud.block (ud.off + m * 2) [.slice B i.rd.length b, .slice C i.wt.length d] ∧ wr.rangeAt ud.block (ud.off + t * 2) [.slice B' j.rd.length b', .slice C' j.wt.length d']) := ⟨us, ub, hui, huj⟩
            have HDF : Hid (depRow l t (m + 1) = if depF i j then depRow l t m ++ [(m : Int)] else depRow l t m) := by
              show _ = _
              rw [depRow_succ, List.getD_eq_getElem?_getD, List.getD_eq_getElem?_getD, hi, HJ.out]; rfl
            clear e2 e3 hs hb hri hrj oki okj us ub hui huj r1 r2 r3 r4 hi hIr hUr
            obtain ⟨bb, hbb⟩ : ∃ bb, depF i j = bb := ⟨_, rfl⟩
            rw [hbb] at CD HDF
            clear hbb
            go_upto_region 11 with fail
            refine wp_region_ext (by kernel_rfl) (by kernel_rfl) ?_
            repeat (first
              | ((with_reducible show wpQuiet _ _ _ _ (Oper.mk _ (.load 48 _) _ _ _ _ :: _) _); (first | (refine qld_insA D1.out.1 D1.out.2.1 D1.out.2.2.1 rfl _ rfl rfl ?_) | (refine qld_insA D1.out.1 D1.out.2.1 D1.out.2.2.2 rfl _ rfl rfl ?_)); simp [Act.put])
              | ((with_reducible show wpQuiet _ _ _ _ (Oper.mk _ (.load 77 _) _ _ _ _ :: _) _); (first | (refine qld_useA D2.out.1 D2.out.2.1 D2.out.2.2.1 rfl _ rfl rfl ?_) | (refine qld_useA D2.out.1 D2.out.2.1 D2.out.2.2.2 rfl _ rfl rfl ?_)); simp [Act.put])
              | (go_big_quiet_step (first
                | (go_at_call 44; exact ext_below (CD.out _ (Ext.below _))))))
            refine wpQuiet_nil ?_
            rintro ⟨w3, hb3⟩
            dsimp only
            have HB3 := Lib.hid hb3
            clear hb3 CD D1 D2
            have hat : ((depT l n t).set t (depRow l t m))[t]? = some (depRow l t m) := List.getElem?_set_self (by rw [depT_length]; exact hlt)
            have HAT := Lib.hid hat
            have HO3 := Lib.hid (HO.out.grow HB3.out)
            have HBG := Lib.hid (HB.out.trans (HB3.out.mono (Nat.le_of_lt HO.out.own.block.2)))
            clear hat HO HB HB3
            cases bb with
            | false =>
              go_wp2_with fail
              go_roundw
              case rel => exact ⟨m + 1, by omega, rfl, (by rw [HDF.out]; exact HO3), HBG⟩
              case measure => simp [intOf]; omega
            | true =>
              obtain ⟨B5, c5, hc5, ho5⟩ := HO3.out.own.cell HAT.out
              have hlr : (depRow l t m).length < 100000000 := Nat.lt_of_le_of_lt (depRow_len l t m) (by omega)
              have hgs : g ≤ w3.heap.size := Nat.le_of_lt (HO3.out.own.block).2
              have hfr := HO3.out.own.free t
              have H5 : Hid ((depRow l t m).length < 100000000 ∧ g ≤ w3.heap.size) := ⟨hlr, hgs⟩
              clear hlr hgs ho5
              go_upto_region 13 with (((with_reducible show wpList _ _ _ (Oper.mk (some 54) _ _ _ _ _ :: _) _ _); refine app_rowD w3 rfl _ _ rfl g HO3.out HAT.out hc5 rfl rfl rfl H5.out.1 H5.out.2 (I64_nat (by omega)) ?_; intro v6 w6 hmid hc6 hb6; obtain ⟨B6, c6, rfl⟩ := hmid.form; have hfm := hmid.free t))
              have hset := hmid.set
              rw [List.set_set] at hset
              have hl1 : (depRow l t m ++ [(m : Int)]).length = (depRow l t m).length + 1 := by simp
              rw [hl1] at hset
              have HS6 : Hid (OwnD g (w6.setCell ⟨g, t, none⟩ (.slice B6 ((depRow l t m).length + 1) c6)) g n ((depT l n t).set t (depRow l t (m + 1)))) := by rw [HDF.out, if_pos rfl]; exact hset
              have HB6 : Hid (Below g w1 (w6.setCell ⟨g, t, none⟩ (.slice B6 ((depRow l t m).length + 1) c6))) := (HBG.out.trans hb6).setCell (Nat.le_refl _) _
              clear hl1 hset hmid hc6 hc5 hb6 hfm hfr
              go_wp2_with fail
              go_roundw
              case rel => exact ⟨m + 1, by omega, rfl, HS6, HB6⟩
              case measure => simp [intOf]; omega
          · obtain rfl : m = t := by omega
            have hlo : ¬ (m : Int) < (m : Int) := by omega
            go_wp2_with fail
            go_roundw
            case rel => exact ⟨m + 1, by omega, rfl, (by rw [← depT_set]; exact HO), HB⟩
            case measure => simp [intOf]; omega
      · obtain rfl : t = n := by omega
        have hlo : ¬ (t : Int) < (t : Int) := by omega
        go_wp2_with fail
        go_ret2
        have e1 : depD l = depT l t t := by unfold depD depsF; rw [if_pos HFL.out, HN.out]
        have e2 : depE l = 0 := by unfold depE; rw [if_pos HFL.out]
        rw [e1, e2]
        exact RetIntsL.mk (depT_length l t t).symm HO.out.own.ints (below_then HB1.out (HGG.out ▸ HB.out))
  · have hfl : fineF l = false := by simpa using hfl
    have CE : Hid (Calls Tryd.prog 34 #[.slice A n c] w fun e w' => ∃ UA uc, e = .returned (.tuple #[.slice UA 0 uc, .int .i64 21]) ∧ Below w.heap.size w w') := by
      refine (sc_uses A n c l w hf h hn h9).mono ?_
      rintro e w' ⟨⟨UA, uc, he, hu⟩, hb⟩
      unfold depE at he
      rw [hfl] at he
      exact ⟨UA, uc, he, hb⟩
    have HFL := Lib.hid hfl
    clear h hn hf hfl h9
    go_enter Tryd.func28, Tryd.ntmps28
    go_wp2_with (go_at_call 34; (with_reducible refine CE.out.mono ?_); rintro e1 w1 ⟨UA, uc, rfl, hb1⟩)
    go_ret2
    have e1 : depD l = [] := by unfold depD; rw [HFL.out]; rfl
    have e2 : depE l = 21 := by unfold depE; rw [HFL.out]; rfl
    rw [e1, e2]
    exact RetIntsL.mk rfl IntsL.nil hb1
set_option maxRecDepth 100000 in
set_option maxHeartbeats 4000000 in
theorem r40_Depends (A : Option Addr) (n c : Nat) (l : List Ins) (w : World) (h : InsAt w A l) (hn : l.length = n) (h9 : n ≤ 9223372036854775807) : Calls Tryd.prog 37 #[.slice A n c] w (RetIntsL w (depD l) (depE l)) := by
  have CF := Lib.hid (r40_fine A n c l w h hn h9)
  obtain ⟨fl, hfl⟩ : ∃ fl, fineF l = fl := ⟨_, rfl⟩
  rw [hfl] at CF
  have HFL := Lib.hid hfl
  cases fl with
  | true =>
    have hn512 : n ≤ 512 := by
      unfold fineF inB at hfl
      rw [Bool.and_eq_true, Bool.and_eq_true, decide_eq_true_eq, decide_eq_true_eq, hn] at hfl
      omega
    have HI := Lib.hid h
    have HN := Lib.hid hn
    clear h hn hfl h9
    go_enter Tryd.func37, Tryd.ntmps37
    go_upto_region 3 with (go_at_call 51; (with_reducible refine CF.out.mono ?_); rintro e1 w1 ⟨rfl, hb1⟩)
    have HB1 := Lib.hid hb1
    have HI1 := Lib.hid (HI.out.grow hb1)
    clear hb1 HI CF
    go_upto_region 4 with ((with_reducible show wpList _ _ _ (Oper.mk (some 12) _ _ _ _ _ :: _) _ _); refine mk_intD rfl _ _ rfl n rfl rfl rfl (by omega) ?_; intro w2 ho2 hb2)
    have HO2 : Hid (OwnD w1.heap.size w2 w1.heap.size n (depT l n 0)) := by rw [depT_zero]; exact ho2
    have HB2 := Lib.hid hb2
    have HG : Hid (∃ g, w1.heap.size = g) := ⟨_, rfl⟩
    obtain ⟨g, hg⟩ := HG.out
    have HGG := Lib.hid hg
    rw [hg] at HO2 HB2 ⊢
    clear ho2 hb2 hg HG
    go_wp2_with fail
    go_loopw [5] (fun x wr => ∃ t : Nat, t ≤ n ∧ x = .int .i64 t ∧ Hid (OwnD g wr g n (depT l n t)) ∧ Hid (Below g w1 wr)) (fun x _ => n - (intOf x).toNat)
    case atStart => exact ⟨0, Nat.zero_le _, rfl, HO2, HB2⟩
    case round =>
      obtain ⟨t, ht, rfl, HO, HB⟩ := hrel
      by_cases hlt : t < n
      · obtain ⟨j, hj⟩ : ∃ j, l[t]? = some j := ⟨_, List.getElem?_eq_getElem (by rw [HN.out]; exact hlt)⟩
        have HJ := Lib.hid hj
        clear hj
        have q1 : (0 : Int) ≤ (t : Int) := by omega
        have q2 : (t : Int) < (n : Int) := by omega
        have wt : IntKind.i64.wrap ((t : Int) + 1) = ((t + 1 : Nat) : Int) := (IntWalk.i64_in _ (by omega)).trans (by omega)
        have HOS : Hid (OwnD g wr g n ((depT l n t).set t (depRow l t 0))) := by rw [depRow_zero, depT_start]; exact HO
        obtain ⟨wo, hwo⟩ : ∃ wo : World, wo = wr := ⟨_, rfl⟩
        clear HO
        go_wp2_with fail
        go_loopw [6] (fun x wr => ∃ m : Nat, m ≤ t ∧ x = .int .i64 m ∧ Hid (OwnD g wr g n ((depT l n t).set t (depRow l t m))) ∧ Hid (Below g w1 wr)) (fun x _ => t - (intOf x).toNat)
        case atStart => exact ⟨0, Nat.zero_le _, rfl, HOS, HB⟩
        case round =>
          obtain ⟨m, hm, rfl, HO, HB⟩ := hrel
          by_cases hmt : m < t
          · obtain ⟨i, hi⟩ : ∃ i, l[m]? = some i := ⟨_, List.getElem?_eq_getElem (by rw [HN.out]; omega)⟩
            have p1 : (0 : Int) ≤ (m : Int) := by omega
            have p2 : (m : Int) < (n : Int) := by omega
            have p3 : (m : Int) < (t : Int) := by omega
            have wm : IntKind.i64.wrap ((m : Int) + 1) = ((m + 1 : Nat) : Int) := (IntWalk.i64_in _ (by omega)).trans (by omega)
            have hIr := HI1.out.grow (HGG.out ▸ HB.out)
            obtain ⟨ad, rfl, hs, hb, hri, oki⟩ := hIr m i hi
            obtain ⟨ad2, e2, -, -, hrj, okj⟩ := hIr t j HJ.out
            obtain rfl : ad = ad2 := Option.some.inj e2
            have CD : Hid (∀ w1, Below wr.heap.size wr w1 → Calls Tryd.prog 52 #[i.v, j.v] w1 fun e w' => e = .returned (.bool (depF i j)) ∧ Below w1.heap.size w1 w') :=
              fun w1 hb => r40_conflict i j w1 oki okj
            have D1 : Hid (ad.spot = none ∧ ad.block < wr.heap.size ∧ wr.rangeAt ad.block (ad.off + m * 4) i.cells ∧ wr.rangeAt ad.block (ad.off + t * 4) j.cells) := ⟨hs, hb, hri, hrj⟩
            have HDF : Hid (depRow l t (m + 1) = if depF i j then depRow l t m ++ [(m : Int)] else depRow l t m) := by
              show _ = _
              rw [depRow_succ, List.getD_eq_getElem?_getD, List.getD_eq_getElem?_getD, hi, HJ.out]; rfl
            clear e2 hs hb hri hrj oki okj hi hIr
            obtain ⟨bb, hbb⟩ : ∃ bb, depF i j = bb := ⟨_, rfl⟩
            rw [hbb] at CD HDF
            clear hbb
            go_upto_region 10 with fail
            refine wp_region_ext (by kernel_rfl) (by kernel_rfl) ?_
            repeat (first
              | ((with_reducible show wpQuiet _ _ _ _ (Oper.mk _ (.load 48 _) _ _ _ _ :: _) _); (first | (refine qld_insA D1.out.1 D1.out.2.1 D1.out.2.2.1 rfl _ rfl rfl ?_) | (refine qld_insA D1.out.1 D1.out.2.1 D1.out.2.2.2 rfl _ rfl rfl ?_)); simp [Act.put])
              | (go_big_quiet_step (first
                | (go_at_call 52; exact ext_below (CD.out _ (Ext.below _))))))
            refine wpQuiet_nil ?_
            rintro ⟨w3, hb3⟩
            dsimp only
            have HB3 := Lib.hid hb3
            clear hb3 CD D1
            have hat : ((depT l n t).set t (depRow l t m))[t]? = some (depRow l t m) := List.getElem?_set_self (by rw [depT_length]; exact hlt)
            have HAT := Lib.hid hat
            have HO3 := Lib.hid (HO.out.grow HB3.out)
            have HBG := Lib.hid (HB.out.trans (HB3.out.mono (Nat.le_of_lt HO.out.own.block.2)))
            clear hat HO HB HB3
            cases bb with
            | false =>
              go_wp2_with fail
              go_roundw
              case rel => exact ⟨m + 1, by omega, rfl, (by rw [HDF.out]; exact HO3), HBG⟩
              case measure => simp [intOf]; omega
            | true =>
              obtain ⟨B5, c5, hc5, ho5⟩ := HO3.out.own.cell HAT.out
              have hlr : (depRow l t m).length < 100000000 := Nat.lt_of_le_of_lt (depRow_len l t m) (by omega)
              have hgs : g ≤ w3.heap.size := Nat.le_of_lt (HO3.out.own.block).2
              have hfr := HO3.out.own.free t
              have H5 : Hid ((depRow l t m).length < 100000000 ∧ g ≤ w3.heap.size) := ⟨hlr, hgs⟩
              clear hlr hgs ho5
              go_upto_region 9 with (((with_reducible show wpList _ _ _ (Oper.mk (some 41) _ _ _ _ _ :: _) _ _); refine app_rowD w3 rfl _ _ rfl g HO3.out HAT.out hc5 rfl rfl rfl H5.out.1 H5.out.2 (I64_nat (by omega)) ?_; intro v6 w6 hmid hc6 hb6; obtain ⟨B6, c6, rfl⟩ := hmid.form; have hfm := hmid.free t))
              have hset := hmid.set
              rw [List.set_set] at hset
              have hl1 : (depRow l t m ++ [(m : Int)]).length = (depRow l t m).length + 1 := by simp
              rw [hl1] at hset
              have HS6 : Hid (OwnD g (w6.setCell ⟨g, t, none⟩ (.slice B6 ((depRow l t m).length + 1) c6)) g n ((depT l n t).set t (depRow l t (m + 1)))) := by rw [HDF.out, if_pos rfl]; exact hset
              have HB6 : Hid (Below g w1 (w6.setCell ⟨g, t, none⟩ (.slice B6 ((depRow l t m).length + 1) c6))) := (HBG.out.trans hb6).setCell (Nat.le_refl _) _
              clear hl1 hset hmid hc6 hc5 hb6 hfm hfr
              go_wp2_with fail
              go_roundw
              case rel => exact ⟨m + 1, by omega, rfl, HS6, HB6⟩
              case measure => simp [intOf]; omega
          · obtain rfl : m = t := by omega
            have hlo : ¬ (m : Int) < (m : Int) := by omega
            go_wp2_with fail
            go_roundw
            case rel => exact ⟨m + 1, by omega, rfl, (by rw [← depT_set]; exact HO), HB⟩
            case measure => simp [intOf]; omega
      · obtain rfl : t = n := by omega
        have hlo : ¬ (t : Int) < (t : Int) := by omega
        go_wp2_with fail
        go_ret2
        have e1 : depD l = depT l t t := by unfold depD depsF; rw [if_pos HFL.out, HN.out]
        have e2 : depE l = 0 := by unfold depE; rw [if_pos HFL.out]
        rw [e1, e2]
        exact RetIntsL.mk (depT_length l t t).symm HO.out.own.ints (below_then HB1.out (HGG.out ▸ HB.out))
  | false =>
    clear h hn hfl h9
    go_enter Tryd.func37, Tryd.ntmps37
    go_wp2_with (go_at_call 51; (with_reducible refine CF.out.mono ?_); rintro e1 w1 ⟨rfl, hb1⟩)
    go_ret2
    have e1 : depD l = [] := by unfold depD; rw [HFL.out]; rfl
    have e2 : depE l = 21 := by unfold depE; rw [HFL.out]; rfl
    rw [e1, e2]
    exact RetIntsL.mk rfl IntsL.nil hb1
end Go.Proofs.YtpmbgcfnehplaaaDoor
