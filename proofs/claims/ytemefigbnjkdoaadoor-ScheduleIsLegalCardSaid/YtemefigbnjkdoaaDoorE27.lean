/- pairs and Legal of the reference of layer 40. Printed by gen_e27.py. -/
import Derived.Test.YtemefigbnjkdoaaDoorE26
import Derived.Test.YtemefigbnjkdoaaDoorE20
set_option linter.unusedVariables false
set_option linter.unusedSimpArgs false
namespace Go.Proofs.YtemefigbnjkdoaaDoor
open Go.RowKit

/-! ### Which places are taken -/
def usedB (l m : List Ins) (k p : Nat) : Bool := decide ((m.take p).count (m.getD p Ins.zero) < (l.take k).count (m.getD p Ins.zero))
def usedK (l m : List Ins) (n k : Nat) : List Bool := (List.range n).map (usedB l m k)
theorem usedK_length (l m : List Ins) (n k : Nat) : (usedK l m n k).length = n := by simp [usedK]
theorem usedK_at {l m : List Ins} {n k p : Nat} (h : p < n) : (usedK l m n k)[p]? = some (usedB l m k p) := by
  unfold usedK; rw [List.getElem?_map, List.getElem?_range h]; rfl
theorem usedK_zero (l m : List Ins) (n : Nat) : usedK l m n 0 = List.replicate n false := by
  apply List.ext_getElem?
  intro i
  rw [List.getElem?_replicate]
  by_cases h : i < n
  · rw [usedK_at h, if_pos h]
    simp [usedB]
  · rw [List.getElem?_eq_none (by rw [usedK_length]; omega), if_neg h]
theorem used_at {l m : List Ins} {k p : Nat} {v : Ins} (h : m[p]? = some v) : usedB l m k p = decide ((m.take p).count v < (l.take k).count v) := by unfold usedB; rw [getD_of h]
theorem usedK_set {l m : List Ins} {n k : Nat} {i : Ins} (hm : m.length = n) (h : l[k]? = some i) (hp : plF l m k < n) : (usedK l m n k).set (plF l m k) true = usedK l m n (k + 1) := by
  have hc : (l.take k).count i < m.count i := Nat.lt_of_not_le fun hc => by have := plF_none h hc; omega
  obtain ⟨p1, p2⟩ := plF_some h hc
  apply List.ext_getElem?
  intro q
  by_cases hq : q < n
  · obtain ⟨v, hv⟩ : ∃ v, m[q]? = some v := ⟨_, List.getElem?_eq_getElem (by omega)⟩
    rw [usedK_at hq, used_at hv, take_snocI h, List.count_append]
    by_cases e : plF l m k = q
    · subst e
      rw [p1] at hv
      obtain rfl := Option.some.inj hv
      rw [List.getElem?_set_self (by rw [usedK_length]; exact hq), p2]
      simp
    · rw [List.getElem?_set_ne e, usedK_at hq, used_at hv]
      by_cases e2 : i = v
      · subst e2
        have hne : (m.take q).count i ≠ (l.take k).count i := fun e3 => e (cnt_take_inj p1 hv (p2.trans e3.symm))
        simp
        omega
      · simp [e2]
  · rw [List.getElem?_eq_none (by rw [List.length_set, usedK_length]; omega), List.getElem?_eq_none (by rw [usedK_length]; omega)]
/-- The least place that is free and fits is the one that is sought. -/
theorem pl_least {l m : List Ins} {k a : Nat} {i : Ins} (h : l[k]? = some i) (hb : ∀ q, q < a → usedB l m k q = true ∨ m[q]? ≠ some i) (ha : a = m.length ∨ (usedB l m k a = false ∧ m[a]? = some i)) : plF l m k = a := by
  rcases ha with rfl | ⟨h1, h2⟩
  · refine Classical.byContradiction fun hne => ?_
    have hle := plF_le l m k
    have hlt : plF l m k < m.length := by omega
    have hc : (l.take k).count i < m.count i := Nat.lt_of_not_le fun hc => by have := plF_none h hc; omega
    obtain ⟨p1, p2⟩ := plF_some h hc
    rcases hb _ hlt with h3 | h3
    · rw [used_at p1, p2] at h3
      have := of_decide_eq_true h3
      omega
    · exact h3 p1
  · rw [used_at h2] at h1
    have h1 := of_decide_eq_false h1
    have hc : (l.take k).count i < m.count i := by have := cnt_lt_all h2; omega
    obtain ⟨p1, p2⟩ := plF_some h hc
    rcases Nat.lt_trichotomy (plF l m k) a with h3 | h3 | h3
    · rcases hb _ h3 with h4 | h4
      · rw [used_at p1, p2] at h4
        have := of_decide_eq_true h4
        omega
      · exact absurd p1 h4
    · exact h3
    · have := cnt_take_lt h2 h3
      omega
/-- Are all found? -/
def okP (l m : List Ins) : Bool := decide (l.length = m.length) && (List.range l.length).all fun i => decide (plF l m i < m.length)
def plL (l m : List Ins) (k : Nat) : List Int := (List.range k).map fun (i : Nat) => ((plF l m i : Nat) : Int)
theorem plL_succ (l m : List Ins) (k : Nat) : plL l m (k + 1) = plL l m k ++ [((plF l m k : Nat) : Int)] := by simp [plL, List.range_succ]
theorem plL_length (l m : List Ins) (k : Nat) : (plL l m k).length = k := by simp [plL]
theorem plL_at {l m : List Ins} {k i : Nat} (h : i < k) : (plL l m k)[i]? = some ((plF l m i : Nat) : Int) := by unfold plL; rw [List.getElem?_map, List.getElem?_range h]; rfl
theorem okP_short {l m : List Ins} {k : Nat} (hk : k < l.length) (h : plF l m k = m.length) : okP l m = false := by
  unfold okP
  have : (List.range l.length).all (fun i => decide (plF l m i < m.length)) = false := by
    rw [Bool.eq_false_iff]
    intro hc
    have := of_decide_eq_true (List.all_eq_true.1 hc k (by simpa using hk))
    omega
  rw [this, Bool.and_false]
theorem okP_all {l m : List Ins} (h1 : l.length = m.length) (h2 : ∀ k, k < l.length → plF l m k < m.length) : okP l m = true := by
  unfold okP
  rw [decide_eq_true h1, Bool.true_and]
  exact List.all_eq_true.2 fun i hi => decide_eq_true (h2 i (by simpa using hi))
theorem okP_of {l m : List Ins} (h : okP l m = true) : l.length = m.length ∧ ∀ k, k < l.length → plF l m k < m.length := by
  unfold okP at h
  rw [Bool.and_eq_true, decide_eq_true_eq] at h
  exact ⟨h.1, fun k hk => of_decide_eq_true (List.all_eq_true.1 h.2 k (by simpa using hk))⟩
theorem okP_leg {l m : List Ins} (h : okP l m = false) : legB l m = false := by
  unfold legB
  unfold okP at h
  rw [h, Bool.false_and]
/-- What pairs hands back. -/
def RetPr (w : World) (l m : List Ins) (e : Ending) (w' : World) : Prop := (∃ V k c, e = .returned (.tuple #[.slice V k c, .bool (okP l m)]) ∧ (okP l m = true → k = l.length ∧ Ints w' V (plL l m l.length))) ∧ Below w.heap.size w w'
theorem run_equal_ins {i j : Ins} (hi : i.ok) (hj : j.ok) (h : i ≠ j) (w : World) : (Op.equal 50 i.v j.v).run Tryd.prog w = .ok false w := by
  obtain ⟨li, hli⟩ := key_ins hi
  obtain ⟨lj, hlj⟩ := key_ins hj
  obtain ⟨r, hr, hiff⟩ := Go.run_equal_deep w (m := 2) (by decide) (k := 50) (by kernel_rfl) (by kernel_rfl) hli hlj
  cases r with
  | false => exact hr
  | true =>
    have e := hiff.1 rfl
    subst e
    exact absurd (Ins.v_inj (law_ins.inj hli hlj)) h
theorem run_neq_ins {i j : Ins} (hi : i.ok) (hj : j.ok) (h : i ≠ j) (w : World) : (Go.binOp .neq 50 i.v j.v).run Tryd.prog w = .ok (.bool true) w := by
  have := run_equal_ins hi hj h w
  simp [Go.binOp, this, Result.andThen]
theorem eqg_ins (x y : Operand) (i j : Ins) (w : World) : (eqGuard .neq 50 x y i.v j.v).run Tryd.prog w = .ok () w := by
  have h : Tryd.prog.eqGuardType Tryd.prog.depth 50 = false := by kernel_rfl
  simp [eqGuard, h, Result.andThen]
/-- Two instructions that differ are compared, in a region that only reads. -/
theorem q_neq_ins {ops : Array Oper} {rest : List Oper} {o : Oper} {a : Act} {C : World → Prop} {Q : Act → Prop} {i j : Ins} (hi : i.ok) (hj : j.ok) (hne : i ≠ j) (hw : Region.wanted o (yielded ops a.tmps) = true) (x y : Operand) (T : TypeId) (ho : o.op = .binOp .neq 50 x y T) (hx : a.eval x = i.v) (hy : a.eval y = j.v)
    (h : wpQuiet Tryd.prog ops C Q rest (a.put o.dst (.bool true))) : wpQuiet Tryd.prog ops C Q (o :: rest) a :=
  BigFrame.wpQuiet_want hw fun K hK => ⟨.bool true, fun w _ => by
    have e1 := eqg_ins x y i j w
    have e2 := run_neq_ins hi hj hne w
    unfold Oper.quietAt execOp
    simp only [ho, hx, hy, Sem.run_bind, Sem.run_pure, e1, e2, Result.andThen_ok]
    exact ⟨rfl, rfl⟩, hK _ h⟩
def prRel (n gT g2 : Nat) (w3 : World) (l m : List Ins) (x7 x8 : Value) (wr : World) : Prop :=
  ∃ (k : Nat) (A0 : Option Addr) (oc : Nat), x7 = .slice A0 k oc ∧ x8 = .int .i64 k ∧ k ≤ n ∧ Hid (OwnT gT wr gT n (usedK l m n k)) ∧ Hid (Own g2 wr (.slice A0 k oc) (plL l m k) ∧ g2 ≤ wr.heap.size) ∧ Hid (Below gT w3 wr) ∧ Hid (∀ j, j < k → plF l m j < n)
set_option maxRecDepth 100000 in
set_option maxHeartbeats 16000000 in
theorem r40_pairs (A B : Option Addr) (n c n2 d : Nat) (l m : List Ins) (w : World) (h : InsAt w A l) (h2 : InsAt w B m) (hn : l.length = n) (hn2 : m.length = n2) (h9 : n ≤ 512) (h92 : n2 ≤ 512) :
    Calls Tryd.prog 31 #[.slice A n c, .slice B n2 d] w (RetPr w l m) := by
  by_cases hnn : n = n2
  · subst hnn
    have HI := Lib.hid h
    have HJ := Lib.hid h2
    have HN := Lib.hid hn
    have HN2 := Lib.hid hn2
    clear h h2 hn hn2 h92
    go_enter Tryd.func31, Tryd.ntmps31
    go_upto_region 4 with ((with_reducible show wpList _ _ _ (Oper.mk (some 17) _ _ _ _ _ :: _) _ _); refine mk_bool rfl _ _ rfl w.heap.size n rfl rfl rfl (by omega) (Nat.le_refl _) ?_; intro w4 ho4 hb4)
    obtain ⟨gT, hgt⟩ : ∃ g, w.heap.size = g := ⟨_, rfl⟩
    obtain ⟨g2, hg2⟩ : ∃ g, w4.heap.size = g := ⟨_, rfl⟩
    have HGT := Lib.hid hgt
    have HGG : Hid (gT < g2) := by have := ho4.block.2; show _ < _; omega
    rw [hgt] at ho4 hb4 ⊢
    have HO4 : Hid (OwnT gT w4 gT n (usedK l m n 0)) := by rw [usedK_zero]; exact Lib.hid ho4
    have HB4 := Lib.hid hb4
    have HR4 : Hid (Own g2 w4 (.slice none 0 0) (plL l m 0) ∧ g2 ≤ w4.heap.size) := ⟨Own.nil, Nat.le_of_eq hg2.symm⟩
    clear ho4 hb4 hgt hg2
    go_upto_region 6 with fail
    go_loopw [7, 8] (fun x7 x8 wr => prRel n gT g2 w l m x7 x8 wr) (fun _ x _ => n - (intOf x).toNat)
    case atStart => exact ⟨0, none, 0, rfl, rfl, Nat.zero_le _, HO4, HR4, HB4, fun j hj => absurd hj (Nat.not_lt_zero j)⟩
    case round =>
      obtain ⟨k, A0, oc, rfl, rfl, hk, HOT, HOR, HBW, HP⟩ := hrel
      have HBW2 : Hid (Below w.heap.size w wr) := HGT.out ▸ HBW.out
      by_cases hlt : k < n
      · obtain ⟨il, hil⟩ : ∃ x, l[k]? = some x := ⟨_, List.getElem?_eq_getElem (by rw [HN.out]; exact hlt)⟩
        have HIL := Lib.hid hil
        have q1 : (0 : Int) ≤ (k : Int) := by omega
        have q2 : (k : Int) < (n : Int) := by omega
        have wk : IntKind.i64.wrap ((k : Int) + 1) = ((k + 1 : Nat) : Int) := (IntWalk.i64_in _ (by omega)).trans (by omega)
        clear hil
        go_upto_region 9 with fail
        obtain ⟨wa, hwa⟩ : ∃ W : World, W = wr := ⟨_, rfl⟩
        rw [← hwa] at HOT HOR HBW HBW2
        have HBa : Hid (Below wa.heap.size wa wr) := by rw [hwa]; exact Lib.hid (Below.refl _ _)
        clear hwa
        go_loopw [9] (fun x w' => ∃ a : Nat, x = .int .i64 a ∧ a ≤ n ∧ Hid (∀ q, q < a → usedB l m k q = true ∨ m[q]? ≠ some il) ∧ Hid (Below wa.heap.size wa w')) (fun x _ => n - (intOf x).toNat)
        case atStart => exact ⟨0, rfl, Nat.zero_le _, fun q hq => absurd hq (Nat.not_lt_zero q), HBa⟩
        case round =>
          obtain ⟨a, rfl, ha, HQ, HBs⟩ := hrel
          have HOTs := Lib.hid (HOT.out.grow HBs.out)
          by_cases han : a < n
          · obtain ⟨im, him⟩ : ∃ x, m[a]? = some x := ⟨_, List.getElem?_eq_getElem (by rw [HN2.out]; exact han)⟩
            have hus : (usedK l m n k)[a]? = some (usedB l m k a) := usedK_at han
            have cU := HOTs.out.cell hus
            have hgw := HOTs.out.block.2
            have hbw2 := below_then HBW2.out HBs.out
            obtain ⟨am, rfl, hs1, hb1, hr1, -⟩ := (HJ.out.grow hbw2) a im him
            obtain ⟨al, rfl, hs2, hb2, hr2, -⟩ := (HI.out.grow hbw2) k il HIL.out
            have D1 : Hid (am.spot = none ∧ am.block < wr.heap.size ∧ wr.rangeAt am.block (am.off + a * 4) im.cells) := ⟨hs1, hb1, hr1⟩
            have D2 : Hid (al.spot = none ∧ al.block < wr.heap.size ∧ wr.rangeAt al.block (al.off + k * 4) il.cells) := ⟨hs2, hb2, hr2⟩
            have HIM := Lib.hid him
            obtain ⟨ub, hub⟩ : ∃ x, usedB l m k a = x := ⟨_, rfl⟩
            rw [hub] at cU
            have HUB := Lib.hid hub
            have zU : ∀ n : Ext wr, n.to.cell? ⟨gT, a, none⟩ = some (.bool ub) := fun n => (n.cell _ hgw).trans cU
            have s1 : (0 : Int) ≤ (a : Int) := by omega
            have s2 : (a : Int) < (n : Int) := by omega
            have wa1 : IntKind.i64.wrap ((a : Int) + 1) = ((a + 1 : Nat) : Int) := (IntWalk.i64_in _ (by omega)).trans (by omega)
            clear hus cU hgw hbw2 hs1 hb1 hr1 hs2 hb2 hr2 him hub
            go_upto_region 9 with fail
            cases ub with
            | true =>
              refine wp_region_ext (by kernel_rfl) (by kernel_rfl) ?_
              repeat (go_big_quiet_step (fail))
              refine wpQuiet_nil ?_
              rintro w9 ⟨⟨_, hb9⟩, rfl⟩
              have HB9 := Lib.hid (below_then HBs.out hb9)
              clear hb9 zU
              go_wp2_with fail
              go_roundw
              case rel => exact ⟨a + 1, rfl, by omega, fun q hq => by
                by_cases e : q = a
                · subst e; exact .inl HUB.out
                · exact HQ.out q (by omega), HB9⟩
              case measure => simp [intOf]; omega
            | false =>
              by_cases hii : im = il
              · subst hii
                refine wp_region_ext (by kernel_rfl) (by kernel_rfl) ?_
                repeat (first
                  | ((with_reducible show wpQuiet _ _ _ _ (Oper.mk (some 37) (.load 50 _) _ _ _ _ :: _) _); refine qld_insA D1.out.1 D1.out.2.1 D1.out.2.2 rfl _ rfl rfl ?_; simp [Act.put])
                  | ((with_reducible show wpQuiet _ _ _ _ (Oper.mk (some 41) (.load 50 _) _ _ _ _ :: _) _); refine qld_insA D2.out.1 D2.out.2.1 D2.out.2.2 rfl _ rfl rfl ?_; simp [Act.put])
                  | (go_big_quiet_step (fail)))
                refine wpQuiet_nil ?_
                rintro ⟨w9, hb9⟩
                dsimp only
                have HB9 := Lib.hid (below_then HBs.out hb9)
                clear hb9 zU
                have HPL : Hid (plF l m k = a) := pl_least HIL.out HQ.out (.inr ⟨HUB.out, HIM.out⟩)
                have b1 : ((a : Int) == (n : Int)) = false := by simp; omega
                have cT : w9.cell? ⟨gT, a, none⟩ = some (.bool false) := (HOT.out.grow HB9.out).cell (by rw [usedK_at han, HUB.out])
                have HOT9 := Lib.hid (HOT.out.grow HB9.out)
                have fT := HOT9.out.free a
                have HOR9 : Hid (Own g2 w9 (.slice A0 k oc) (plL l m k) ∧ g2 ≤ w9.heap.size) := ⟨HOR.out.1.grow HB9.out, Nat.le_trans HOR.out.2 HB9.out.size⟩
                have HBW9 : Hid (Below gT w w9) := HBW.out.trans (HB9.out.mono (Nat.le_of_lt HOT.out.block.2))
                have hIa : I64 (a : Int) := I64_nat (by omega)
                have HIa := Lib.hid hIa
                clear hIa
                go_upto_region 14 with fail
                have HOTa : Hid (OwnT gT (w9.setCell ⟨gT, a, none⟩ (.bool true)) gT n (usedK l m n (k + 1))) := by
                  rw [← usedK_set HN2.out HIL.out (by rw [HPL.out]; exact han), HPL.out]
                  exact Lib.hid (HOT9.out.set a true)
                have HORa : Hid (Own g2 (w9.setCell ⟨gT, a, none⟩ (.bool true)) (.slice A0 k oc) (plL l m k) ∧ g2 ≤ (w9.setCell ⟨gT, a, none⟩ (.bool true)).heap.size) :=
                  ⟨⟨own_store HOR9.out.1.1 HGG.out, HOR9.out.1.2⟩, Nat.le_trans HOR9.out.2 (grown_set (k := a) (u := .bool true) (grown_refl w9 (some gT))).size⟩
                have HBWa : Hid (Below gT w (w9.setCell ⟨gT, a, none⟩ (.bool true))) := below_set HBW9.out (Nat.le_refl gT)
                generalize w9.setCell ⟨gT, a, none⟩ (.bool true) = wb at HOTa HORa HBWa ⊢
                clear cT fT HOT9 HOR9 HBW9 HB9
                have halc := (Below.refl wb.heap.size wb).alloc (Nat.le_refl _) (.cells #[.int .i64 (a : Int)] 3)
                have HORc := Lib.hid (HORa.out.1.grow halc)
                have HOTc := Lib.hid (HOTa.out.grow halc)
                have HBWc : Hid (Below gT w (wb.alloc (.cells #[.int .i64 (a : Int)] 3))) := HBWa.out.trans (halc.mono (Nat.le_of_lt HOTa.out.block.2))
                have hzc : g2 ≤ (wb.alloc (.cells #[.int .i64 (a : Int)] 3)).heap.size := Nat.le_trans HORa.out.2 halc.size
                have hplc : (plL l m k).length + 1 ≤ 100000000 := by rw [plL_length]; omega
                have HPLA : Hid ((plL l m k ++ [(a : Int)]).length = k + 1) := by show _ = _; rw [List.length_append, plL_length]; rfl
                have HPS : Hid (plL l m (k + 1) = plL l m k ++ [(a : Int)]) := by show _ = _; rw [plL_succ, HPL.out]
                clear halc
                go_upto_region 7 with (first
                  | ((with_reducible show wpList _ _ _ (Oper.mk (some 57) _ _ _ _ _ :: _) _ _); refine app_ints (wb.alloc (.cells #[.int .i64 (a : Int)] 3)) rfl _ _ rfl g2 (m := [(a : Int)]) rfl rfl HORc.out (lit_one HIa.out) hplc hzc ?_; intro v7 w7 hown7 hg7 hob7; have HBn := Lib.hid (own_below (Below.refl g2 _) hzc (fun q hq => (HORc.out.1.lt q hq).1) hg7); obtain ⟨A7, c7, e7, -, -⟩ := hown7.form; rw [HPLA.out] at e7; subst e7))
                have HOTn := Lib.hid (HOTc.out.underG HBn.out HGG.out)
                have HORn : Hid (Own g2 w7 (.slice A7 (k + 1) c7) (plL l m (k + 1)) ∧ g2 ≤ w7.heap.size) := by
                  rw [HPS.out]
                  exact ⟨hown7, Nat.le_trans hzc hg7.size⟩
                have HBWn : Hid (Below gT w w7) := HBWc.out.trans (HBn.out.mono (Nat.le_of_lt HGG.out))
                clear hown7 hg7 hob7
                go_wp2_with fail
                go_roundw
                case rel => exact ⟨k + 1, A7, c7, rfl, by go_num, by omega, HOTn, HORn, HBWn, fun j hj => by
                  by_cases e : j = k
                  · subst e; rw [HPL.out]; exact han
                  · exact HP.out j (by omega)⟩
                case measure => simp [intOf]; omega
              · have ok1 := HJ.out.ok im (List.mem_of_getElem? HIM.out)
                have ok2 := HI.out.ok il (List.mem_of_getElem? HIL.out)
                refine wp_region_ext (by kernel_rfl) (by kernel_rfl) ?_
                repeat (first
                  | ((with_reducible show wpQuiet _ _ _ _ (Oper.mk (some 37) (.load 50 _) _ _ _ _ :: _) _); refine qld_insA D1.out.1 D1.out.2.1 D1.out.2.2 rfl _ rfl rfl ?_; simp [Act.put])
                  | ((with_reducible show wpQuiet _ _ _ _ (Oper.mk (some 41) (.load 50 _) _ _ _ _ :: _) _); refine qld_insA D2.out.1 D2.out.2.1 D2.out.2.2 rfl _ rfl rfl ?_; simp [Act.put])
                  | ((with_reducible show wpQuiet _ _ _ _ (Oper.mk (some 42) _ _ _ _ _ :: _) _); refine q_neq_ins ok1 ok2 hii rfl _ _ _ rfl rfl rfl ?_; simp [Act.put])
                  | (go_big_quiet_step (fail)))
                refine wpQuiet_nil ?_
                rintro ⟨w9, hb9⟩
                dsimp only
                have HB9 := Lib.hid (below_then HBs.out hb9)
                have HNE := Lib.hid hii
                clear hb9 zU ok1 ok2 hii
                go_wp2_with fail
                go_roundw
                case rel => exact ⟨a + 1, rfl, by omega, fun q hq => by
                  by_cases e : q = a
                  · subst e; exact .inr (fun e2 => HNE.out (Option.some.inj (HIM.out.symm.trans e2)))
                  · exact HQ.out q (by omega), HB9⟩
                case measure => simp [intOf]; omega
          · obtain rfl : a = n := by omega
            have HPL : plF l m k = m.length := by rw [HN2.out]; exact pl_least HIL.out HQ.out (.inl HN2.out.symm)
            have hno := okP_short (l := l) (m := m) (k := k) (by rw [HN.out]; exact hlt) HPL
            have HNO := Lib.hid hno
            have hlo : ¬ (a : Int) < (a : Int) := by omega
            have b1 : ((a : Int) == (a : Int)) = true := by simp
            clear hno HPL
            go_upto_region 9 with fail
            refine wp_region_ext (by kernel_rfl) (by kernel_rfl) ?_
            repeat (go_big_quiet_step (fail))
            refine wpQuiet_nil ?_
            rintro w9 ⟨⟨_, hb9⟩, rfl⟩
            have HBf := Lib.hid (below_then HBW2.out (below_then HBs.out hb9))
            clear hb9
            go_wp2_with fail
            go_ret2
            exact ⟨⟨none, 0, 0, by rw [HNO.out]; rfl, fun hc => by rw [HNO.out] at hc; cases hc⟩, HBf.out⟩
      · obtain rfl : k = n := by omega
        have hyes := okP_all (l := l) (m := m) (HN.out.trans HN2.out.symm) (fun j hj => by rw [HN2.out]; exact HP.out j (by rw [← HN.out]; exact hj))
        have HYES := Lib.hid hyes
        have hlo : ¬ (k : Int) < (k : Int) := by omega
        clear hyes
        go_wp2_with fail
        go_ret2
        exact ⟨⟨A0, k, oc, by rw [HYES.out]; rfl, fun _ => ⟨HN.out.symm, by rw [HN.out]; exact HOR.out.1.ints⟩⟩, HBW2.out⟩
  · have hne : okP l m = false := by
      unfold okP
      rw [decide_eq_false (by rw [hn, hn2]; exact hnn)]; rfl
    have HNE := Lib.hid hne
    have b1 : ((n : Int) == (n2 : Int)) = false := by simp; omega
    have b2 : ((n : Int) != (n2 : Int)) = true := by simp; omega
    clear h h2 hn hn2 hnn hne
    go_enter Tryd.func31, Tryd.ntmps31
    go_wp2_with fail
    refine bodyPost_ret (v := .tuple #[.slice none 0 0, .bool false]) (by simp [results, Tryd.results31, go_sem]) rfl ?_
    exact ⟨⟨none, 0, 0, by rw [HNE.out], fun hc => by rw [HNE.out] at hc; cases hc⟩, Below.refl _ _⟩
end Go.Proofs.YtemefigbnjkdoaaDoor
