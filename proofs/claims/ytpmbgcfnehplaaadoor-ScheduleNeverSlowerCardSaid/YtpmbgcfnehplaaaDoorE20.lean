/- Greedy of the reference of layer 40: the walk. Printed by gen_e20.py. -/
import Derived.Test.YtpmbgcfnehplaaaDoorE19
set_option linter.unusedVariables false
set_option linter.unusedSimpArgs false
namespace Go.Proofs.YtpmbgcfnehplaaaDoor
open Go.RowKit

theorem emp_ins {w : World} : OwnIR w.heap.size (w.alloc (.cells #[] 48)) (.slice (some ⟨w.heap.size, 0, none⟩) 0 0) [] :=
  ⟨⟨rfl, .inr ⟨w.heap.size, 0, #[], rfl, Nat.le_refl _, heap_alloc_new w _, Nat.le_refl _, by simp, by simp, by simp⟩⟩, by simp⟩
/-- As app_ins; what has grown. -/
theorem app_insG {ops : Array Oper} {rest : List Oper} {o : Oper} {a : Act} {Q : Exit → Act → World → Prop} (w : World) (hg : o.guard = none) (s x : Operand) (ho : o.op = .call { callee := .builtin .append, args := #[s, x], argTypes := #[28, 28] })
    (base : Nat) {v : Value} {l m : List Ins} {A : Option Addr} {n c : Nat} (hs : a.eval s = v) (hx : a.eval x = .slice A n c) (hown : OwnIR base w v l) (hI : InsAt w A m) (hm : m.length = n) (hn : l.length + n ≤ 100000000) (hbase : base ≤ w.heap.size)
    (h : ∀ v' w', OwnIR base w' v' (l ++ m) → w.grownBy w' v.ownBlock → wpList Tryd.prog ops Q rest (a.put o.dst v') w') : wpList Tryd.prog ops Q (o :: rest) a w := by
  subst hm
  refine app_row w hg s x 28 48 (.agg #[.int .i64 0, .int .i64 0, .int .i64 0, .int .i64 0]) 4 32 ho und_ins info_ins rfl (by decide) (by decide) base hs hx hown.1 (ys := (m.flatMap encI).map (Value.int .i64)) ?_ hI.row nums_one hn hbase fun v' w' h1 h2 h3 => h v' w' ⟨?_, ?_⟩ h2
  · rw [List.length_map, flat_length (enc := encI) (sz := 4) (fun _ => rfl)]
  · rw [List.flatMap_append, List.map_append, List.length_append]; exact h1
  · intro i hi
    rcases List.mem_append.1 hi with hi | hi
    · exact hown.2 i hi
    · exact hI.ok i hi
theorem and_take {l : List Int} {p : Int → Bool} {k : Nat} {x : Int} {y : Bool} (h : l[k]? = some x) : (y && (l.take (k + 1)).all p) = ((y && (l.take k).all p) && p x) := by
  rw [all_take h, Bool.and_assoc]
/-- What holds when a round of the order begins. -/
def gyRel (n : Nat) (l : List Ins) (gT g2 : Nat) (w3 : World) (v : Value) (wr : World) : Prop :=
  ∃ (r : Nat) (tk : List Bool) (o : List Ins) (A0 : Option Addr) (oc : Nat), r ≤ n ∧ v = .slice A0 r oc ∧ Hid (gr l (htF l) r = (tk, o)) ∧ Hid (OwnT gT wr gT n tk) ∧ Hid (OwnG g2 wr (.slice A0 r oc) o) ∧ Hid (Below gT w3 wr)
set_option maxRecDepth 100000 in
set_option maxHeartbeats 16000000 in
theorem r40_Greedy (A : Option Addr) (n c : Nat) (l : List Ins) (w : World) (h : InsAt w A l) (hn : l.length = n) (h9 : n ≤ 9223372036854775807) : Calls Tryd.prog 21 #[.slice A n c] w (RetIns w (grD l) (depE l)) := by
  have CD := Lib.hid (r40_Depends A n c l w h hn h9)
  by_cases hfl : fineF l = true
  · have hl := fineF_len hfl
    rw [hn] at hl
    have hn512 : n ≤ 512 := hl.2
    have e1 : depD l = depsF l := by unfold depD; rw [if_pos hfl]
    have e2 : depE l = 0 := by unfold depE; rw [if_pos hfl]
    have e3 : grD l = grF l := by unfold grD; rw [if_pos hfl]
    have e4 : (depsF l).length = n := by unfold depsF; rw [depT_length, hn]
    have e5 := htF_in l (by omega)
    rw [hn] at e5
    have HAT : Hid (∀ j, j < n → (depsF l)[j]? = some (depRow l j j)) := fun j hj => by
      unfold depsF; rw [hn, depT_at hj, if_pos hj]
    rw [e1, e2] at CD
    rw [e2, e3]
    have HE4 := Lib.hid e4
    have HE5 := Lib.hid e5
    have HI := Lib.hid h
    have HN := Lib.hid hn
    have HFL := Lib.hid hfl
    have HGI := Lib.hid (gr_inv l (htF l))
    have CH : Hid (∀ w1, Below w.heap.size w w1 → Calls Tryd.prog 38 #[.slice A n c] w1 fun e w' => ∃ HA hc, e = .returned (.tuple #[.slice HA n hc, .int .i64 0]) ∧ Ints w' HA (htF l) ∧ Below w1.heap.size w1 w') := fun w1 hb => by
      refine (r40_Heights A n c l w1 (HI.out.grow hb) HN.out h9).mono ?_
      intro e w' hr
      obtain ⟨HA, hc, he, hi, hb⟩ := hr.form
      unfold depE htD at *
      rw [if_pos hfl] at *
      rw [if_pos hfl, HE5.out.1] at he
      exact ⟨HA, hc, he, hi, hb⟩
    clear h hn hfl h9 e1 e2 e3 e4 e5
    go_enter Tryd.func21, Tryd.ntmps21
    go_upto_region 4 with (go_at_call 37; (with_reducible refine CD.out.mono ?_); rintro e1 w1 ⟨DA, dc, rfl, hd, hb1⟩)
    rw [HE4.out]
    go_upto_region 5 with (go_at_call 38; (with_reducible refine (CH.out _ hb1).mono ?_); rintro e1 w3 ⟨HA, hc, rfl, hh, hb3⟩)
    have HB0 := Lib.hid (below_then hb1 hb3)
    have HD := Lib.hid (hd.grow hb3)
    have HH := Lib.hid hh
    have HI0 := Lib.hid (HI.out.grow HB0.out)
    clear hd hh hb1 hb3 CD CH HI HE4
    go_upto_region 6 with ((with_reducible show wpList _ _ _ (Oper.mk (some 33) _ _ _ _ _ :: _) _ _); refine mk_bool rfl _ _ rfl w3.heap.size n rfl rfl rfl (by omega) (Nat.le_refl _) ?_; intro w4 ho4 hb4)
    have HTT : Hid (∃ gT, w3.heap.size = gT) := ⟨_, rfl⟩
    obtain ⟨gT, hgt⟩ := HTT.out
    have HGT := Lib.hid hgt
    have HG2 : Hid (∃ g2, w4.heap.size = g2) := ⟨_, rfl⟩
    obtain ⟨g2, hg2⟩ := HG2.out
    have HGG : Hid (gT < g2) := by have := ho4.block.2; show _ < _; omega
    rw [hgt] at ho4 hb4 ⊢
    have HO6 := Lib.hid ho4
    have HB6 := Lib.hid hb4
    have HR6 : Hid (OwnG g2 w4 (.slice none 0 0) []) := ⟨OwnIR.nil, Nat.le_of_eq hg2.symm⟩
    clear ho4 hb4 hgt hg2 HTT HG2
    go_wp2_with fail
    go_loopw [9] (fun v wr => gyRel n l gT g2 w3 v wr) (fun v _ => n - lenOf v)
    case atStart => exact ⟨0, List.replicate n false, [], none, 0, Nat.zero_le _, rfl, Lib.hid (by show (List.replicate l.length false, []) = _; rw [HN.out]), HO6, HR6, HB6⟩
    case round =>
      obtain ⟨r, tk, o, A0, oc, hr, rfl, HGR, HOT, HOR, HBW⟩ := hrel
      by_cases hrn : r < n
      · obtain ⟨t1, t2, t3, t4, t5⟩ := HGI.out r (by have := HN.out; omega)
        rw [HGR.out] at t1 t2 t3 t4 t5
        obtain ⟨kb, hkb, hbe, htk⟩ := t5 (by have := HN.out; omega)
        simp only at hbe htk t1 t3 t4
        have HTK : Hid (tk.length = n) := t1.trans HN.out
        have HOL : Hid (o.length = r) := t3
        have HOM : Hid (∀ i ∈ o, i ∈ l) := t4
        have HKB : Hid (kb < n ∧ bestB l (htF l) (tmF o) tk n = ((kb : Int), issF (tmF o) (l.getD kb Ins.zero)) ∧ tk[kb]? = some false) := ⟨by have := HN.out; omega, by rw [← HN.out]; exact hbe, htk⟩
        clear t1 t2 t3 t4 t5 hkb hbe htk
        have q1 : (0 : Int) ≤ (r : Int) := by omega
        have q2 : (r : Int) < (n : Int) := by omega
        obtain ⟨wa, hwa⟩ : ∃ wa : World, wa = wr := ⟨_, rfl⟩
        have HBa : Hid (Below wr.heap.size wr wr) := Lib.hid (Below.refl _ _)
        rw [← hwa] at HOT HOR HBW HBa
        rw [show Below wa.heap.size wa wa = Below wa.heap.size wa wr by rw [hwa]] at HBa
        clear hwa
        go_wp2_with fail
        go_loopw [10, 11, 12] (fun xb xf x wr => ∃ (m : Nat) (b1 b2 wv : Int), m ≤ n ∧ x = .int .i64 m ∧ xb = .int .i64 b1 ∧ xf = .int .i64 wv ∧ Hid (bestB l (htF l) (tmF o) tk m = (b1, b2)) ∧ Hid (wv = if b1 < 0 then 0 else b2 + 1) ∧ Hid (Below wa.heap.size wa wr)) (fun _ _ x _ => n - (intOf x).toNat)
        case atStart => exact ⟨0, -1, 0, 0, Nat.zero_le _, rfl, rfl, rfl, Lib.hid rfl, Lib.hid rfl, HBa⟩
        case round =>
          obtain ⟨m, b1, b2, wv, hm, rfl, rfl, rfl, HBB, HWV, HBm⟩ := hrel
          by_cases hmn : m < n
          · have HSP := bestB_spec l (htF l) (tmF o) tk m
            rw [HBB.out] at HSP
            obtain ⟨y, hy⟩ : ∃ y, tk[m]? = some y := ⟨_, List.getElem?_eq_getElem (by rw [HTK.out]; exact hmn)⟩
            have HOTm := Lib.hid (HOT.out.grow HBm.out)
            have cT := HOTm.out.cell hy
            have HBS : Hid (bestB l (htF l) (tmF o) tk (m + 1) = if freeF l tk m then (if betF l (htF l) (tmF o) (b1, b2) m then ((m : Int), issF (tmF o) (l.getD m Ins.zero)) else (b1, b2)) else (b1, b2)) := by
              show _ = _
              rw [bestB_succ, HBB.out]; rfl
            have p1 : (0 : Int) ≤ (m : Int) := by omega
            have p2 : (m : Int) < (n : Int) := by omega
            have wm : IntKind.i64.wrap ((m : Int) + 1) = ((m + 1 : Nat) : Int) := (IntWalk.i64_in _ (by omega)).trans (by omega)
            have HSP2 := Lib.hid HSP
            have hff0 : freeF l tk m = (!y && (depRow l m m).all fun i => tk.getD i.toNat false) := by
              unfold freeF; rw [List.getD_eq_getElem?_getD, hy]; rfl
            have HFF := Lib.hid hff0
            clear HSP hy hff0
            have HBWm : Hid (Below w3.heap.size w3 wr) := Lib.hid (HGT.out ▸ (HBW.out.trans (HBm.out.mono (Nat.le_of_lt HOT.out.block.2))))
            obtain ⟨dd, RB, rc, rfl, hdc, hri⟩ := (HD.out.grow HBWm.out).row (HAT.out m hmn)
            have HRI := Lib.hid hri
            have hdm : ∀ v ∈ depRow l m m, ∃ i : Nat, i < m ∧ v = i := fun v hv => by
              obtain ⟨i, h1, h2, -⟩ := depRow_mem hv
              exact ⟨i, h1, h2⟩
            have HDM := Lib.hid hdm
            obtain ⟨ds, hds⟩ : ∃ ds, depRow l m m = ds := ⟨_, rfl⟩
            have hrn2 : ds.length ≤ 512 := by rw [← hds]; have := depRow_len l m m; omega
            rw [hds] at HRI HDM HFF hdc
            obtain ⟨rn, hrnl⟩ : ∃ rn, ds.length = rn := ⟨_, rfl⟩
            have HRN := Lib.hid hrnl
            rw [hrnl] at hdc hrn2
            clear hri hdm hds hrnl
            go_upto_region 13 with fail
            go_wp2_with fail
            go_loopw [13, 14] (fun xf x w' => ∃ (k : Nat) (fb : Bool), k ≤ rn ∧ x = .int .i64 k ∧ xf = .bool fb ∧ Hid (fb = (!y && (ds.take k).all (fun i => tk.getD i.toNat false))) ∧ wr = w') (fun _ x _ => rn - (intOf x).toNat)
            case atStart => exact ⟨0, !y, Nat.zero_le _, rfl, rfl, Lib.hid (by show _ = _; simp), rfl⟩
            case round =>
              obtain ⟨k, fb, hk, rfl, rfl, HFB, rfl⟩ := hrel
              by_cases hkr : k < rn
              · obtain ⟨rd, iv, rfl, hrb, hiv, hrc, -, -⟩ := HRI.out.at_ (k := k) (by rw [HRN.out]; exact hkr)
                obtain ⟨i, him, rfl⟩ := HDM.out iv (List.mem_of_getElem? hiv)
                obtain ⟨yi, hyi⟩ : ∃ y, tk[i]? = some y := ⟨_, List.getElem?_eq_getElem (by rw [HTK.out]; omega)⟩
                have cI := HOTm.out.cell hyi
                have HST : Hid ((!y && (ds.take (k + 1)).all (fun i => tk.getD i.toNat false)) = (fb && yi)) := by
                  show _ = _
                  rw [and_take hiv, ← HFB.out, Int.toNat_natCast, List.getD_eq_getElem?_getD, hyi]; rfl
                have s1 : (0 : Int) ≤ (k : Int) := by omega
                have s2 : (k : Int) < (rn : Int) := by omega
                have s3 : (0 : Int) ≤ (i : Int) := by omega
                have s4 : (i : Int) < (n : Int) := by omega
                have wk : IntKind.i64.wrap ((k : Int) + 1) = ((k + 1 : Nat) : Int) := (IntWalk.i64_in _ (by omega)).trans (by omega)
                clear hiv hyi hrb
                cases fb with
                | false =>
                  go_wp2_with fail
                  go_roundw
                  case rel => exact ⟨k + 1, false, by omega, rfl, rfl, Lib.hid (by show _ = _; rw [HST.out]; rfl), by first | rfl | trivial⟩
                  case measure => simp [intOf]; omega
                | true =>
                  go_wp2_with fail
                  go_roundw
                  case rel => exact ⟨k + 1, yi, by omega, rfl, rfl, Lib.hid (by show _ = _; rw [HST.out]; simp), by first | rfl | trivial⟩
                  case measure => simp [intOf]; omega
              · obtain rfl : k = rn := by omega
                have hlo : ¬ (k : Int) < (k : Int) := by omega
                have HF2 : Hid (freeF l tk m = fb) := by
                  show _ = _
                  rw [HFF.out, HFB.out, List.take_of_length_le (Nat.le_of_eq HRN.out)]
                clear HFF HRI HDM HAT HFB
                cases fb with
                | false =>
                  go_wp2_with fail
                  go_roundw
                  case rel => exact ⟨m + 1, b1, b2, wv, by omega, rfl, rfl, rfl, Lib.hid (by show _ = _; rw [HBS.out, HF2.out]; rfl), HWV, HBm⟩
                  case measure => simp [intOf]; omega
                | true =>
                  obtain ⟨im, him⟩ : ∃ x, l[m]? = some x := ⟨_, List.getElem?_eq_getElem (by rw [HN.out]; exact hmn)⟩
                  have hgm0 : l.getD m Ins.zero = im := by rw [List.getD_eq_getElem?_getD, him]; rfl
                  have HIM := Lib.hid him
                  have hfi : fineF (o ++ [im]) = true := gr_fine HFL.out (by simp) (by rw [List.length_append, HOL.out, HN.out]; show r + 1 ≤ n; omega) (fun x hx => by
                    rcases List.mem_append.1 hx with hx | hx
                    · exact HOM.out x hx
                    · rw [List.mem_singleton.1 hx]; exact List.mem_of_getElem? HIM.out)
                  have hcy0 : cycF (o ++ [im]) = issF (tmF o) im + 1 := cyc_snoc hfi
                  have CT : Hid (∀ w1 B cb, InsAt w1 B (o ++ [im]) → Calls Tryd.prog 22 #[.slice B (r + 1) cb] w1 fun e w' => e = .returned (.tuple #[.int .i64 (cycF (o ++ [im])), .int .i64 (stlF (o ++ [im])), .int .i64 (depE (o ++ [im]))]) ∧ Below w1.heap.size w1 w') := fun w1 B cb hI =>
                    r39_Time B (r + 1) cb (o ++ [im]) w1 hI (by rw [List.length_append, HOL.out]; rfl) (by omega)
                  rw [hcy0] at CT
                  obtain ⟨M, hM⟩ : ∃ x, issF (tmF o) im = x := ⟨_, rfl⟩
                  rw [hM] at CT
                  have HME : Hid (issF (tmF o) (l.getD m Ins.zero) = M) := by show _ = _; rw [hgm0]; exact hM
                  obtain ⟨cy, hcy⟩ : ∃ x : Int, M + 1 = x := ⟨_, rfl⟩
                  obtain ⟨st, hst⟩ : ∃ x, stlF (o ++ [im]) = x := ⟨_, rfl⟩
                  obtain ⟨er, her⟩ : ∃ x, depE (o ++ [im]) = x := ⟨_, rfl⟩
                  rw [hcy, hst, her] at CT
                  have HCY := Lib.hid hcy
                  obtain ⟨ad, rfl, hs, hbk, hir, oki⟩ := (HI0.out.grow HBWm.out) m im HIM.out
                  have HIS := Lib.hid hs
                  have HIR := Lib.hid hir
                  have HIBK := Lib.hid hbk
                  have HOKI := Lib.hid oki
                  have HORm := Lib.hid (HOR.out.grow HBm.out)
                  obtain ⟨A1, c1, ee, -, hio⟩ := HORm.out.1.form
                  rw [HOL.out] at ee
                  injection ee with ee1 ee2 ee3
                  rw [← ee1] at hio
                  have HIO := Lib.hid hio
                  have HL2 : Hid (([] : List Ins).length + r ≤ 100000000) := by show 0 + r ≤ _; omega
                  have HL8 : Hid (o.length + 1 ≤ 100000000) := by show _ ≤ _; rw [HOL.out]; omega
                  clear hfi hcy0 hgm0 him hM hcy hst her hs hbk hir oki ee1 ee3 hio
                  obtain ⟨W, hW⟩ : ∃ W : World, W = wr := ⟨_, rfl⟩
                  rw [← hW] at HIR HIBK HORm HIO
                  have HWW : Hid (Below W.heap.size W wr) := by rw [hW]; exact Lib.hid (Below.refl _ _)
                  have HWE := Lib.hid hW
                  clear hW
                  go_upto_region 18 with fail
                  refine wp_region_grow9 17 (fun w3 => Below W.heap.size W w3) gyG (fun _ _ => True) (gyK W (.slice A0 r oc) (.slice (some ad) n c) (m : Int) (.pointer (some (ad.add (m * 4)))) im o cy st er) (gyV W im o) gyC (by kernel_rfl) (by kernel_rfl) (Below.drew HWW.out)
                    (fun j o vs vs' v a b ho h => gyG_local j (fun e => h 0 (by subst e; obtain rfl := Option.some.inj (show some _ = some o from ho); rfl)) (fun e => h 2 (by subst e; obtain rfl := Option.some.inj (show some _ = some o from ho); rfl)))
                    (fun L j o vs x a b hj ho hC hK hP hdep hcl hLj hV hG => gy_stable L j vs x a b hC hK hP (fun e => hdep 0 (by subst e; obtain rfl := Option.some.inj (show some _ = some o from ho); rfl)) (fun e => hdep 2 (by subst e; obtain rfl := Option.some.inj (show some _ = some o from ho); rfl)) (fun h => hcl 8 _ rfl h 2 rfl) hLj hV hG) ?_ ?_
                  · refine ⟨?_, ?_, ?_, ?_, ?_, ?_, ?_, ?_, ?_, ?_, ?_, ?_, ?_, ?_, ?_, ?_, ?_, trivial⟩
                    all_goals
                      intro vs w3 hp hF hV _
                      have HP := Lib.hid hp
                      clear hp
                      simp [depsB, Region.binds, gyK] at hF
                      simp [depsB, Region.binds, gyV, gyC] at hV
                      simp [stL, depsB, Region.binds, Act.put, hF]
                    · go_wp2_with fail
                      exact ⟨⟨⟨_, rfl, HP.out.size, by simp⟩, emp_ins.base HP.out.size⟩, (Below.refl _ _).alloc (Nat.le_refl _) _, rfl⟩
                    · go_wp2_with fail
                      exact ⟨⟨rfl, trivial⟩, Below.refl _ _⟩
                    · refine app_insG w3 rfl _ _ rfl W.heap.size (v := vs 0) (l := []) (m := o) (A := A0) (n := r) (c := oc) rfl rfl hV (HIO.out.grow HP.out) HOL.out HL2.out HP.out.size ?_
                      intro v6 w6 ho6 hg6
                      have hk6 : gyK W (.slice A0 r oc) (.slice (some ad) n c) (m : Int) (.pointer (some (ad.add (m * 4)))) im o cy st er 2 v6 w6 := by
                        obtain ⟨A6, c6, e6, -, -⟩ := ho6.form
                        exact ⟨⟨A6, c6, e6⟩, fun q hq => ho6.1.lt q hq⟩
                      have ho6' : gyV W im o 2 v6 w6 := ho6
                      have hg6' : gyG 2 vs v6 w3 w6 := hg6
                      go_wp2_with fail
                      all_goals first | exact ⟨⟨hk6, ho6'⟩, hg6'⟩ | trivial
                    · go_wp2_with fail
                      exact ⟨⟨rfl, trivial⟩, Below.refl _ _⟩
                    · go_wp2_with fail
                      exact ⟨⟨rfl, trivial⟩, Below.refl _ _⟩
                    · go_wp2_with fail
                      exact ⟨⟨rfl, trivial⟩, Below.refl _ _⟩
                    · refine ld_insA HIS.out (range_keepI HIR.out HIBK.out HP.out) rfl _ rfl rfl ?_
                      go_wp2_with fail
                      exact ⟨⟨rfl, trivial⟩, Below.refl _ _⟩
                    · refine bld_ins1 (i := im) rfl _ rfl rfl ?_
                      go_wp2_with fail
                      obtain ⟨A7, c7, e7, -, h7⟩ := (OwnIR.single (w := w3) HOKI.out).form
                      injection e7 with e7
                      exact ⟨⟨⟨_, rfl, HP.out.size, by simp⟩, ⟨_, rfl, by rw [e7]; exact h7⟩⟩, (Below.refl _ _).alloc (Nat.le_refl _) _, rfl⟩
                    · obtain ⟨⟨⟨A2, c2, e2⟩, hb2⟩, ⟨q7, e7, -⟩, -⟩ := hF
                      obtain ⟨hv2, ⟨q8, e8, hi7⟩, -⟩ := hV
                      rw [e8]
                      refine app_insG w3 rfl _ _ rfl W.heap.size (v := vs 2) (l := o) (m := [im]) (A := some ⟨q8, 0, none⟩) (n := 1) (c := 1) rfl rfl hv2 hi7 rfl HL8.out HP.out.size ?_
                      intro v8 w8 ho8 hg8
                      have hk8 : gyK W (.slice A0 r oc) (.slice (some ad) n c) (m : Int) (.pointer (some (ad.add (m * 4)))) im o cy st er 8 v8 w8 := by
                        obtain ⟨A6, c6, e6, -, h6⟩ := ho8.form
                        exact ⟨A6, c6, by rw [e6, List.length_append]; rfl, h6⟩
                      have hg8' : gyG 8 vs v8 w3 w8 := hg8
                      go_wp2_with fail
                      all_goals first | exact ⟨⟨hk8, trivial⟩, hg8'⟩ | trivial
                    · obtain ⟨A8, ⟨c8, e8⟩, hi8⟩ := hF
                      rw [HOL.out] at e8
                      rw [e8]
                      go_wp2_with fail
                      (with_reducible refine (CT.out w3 A8 c8 hi8).mono ?_)
                      rintro e1 w4 ⟨rfl, hb3⟩
                      go_wp2_with fail
                      all_goals first | exact ⟨⟨rfl, trivial⟩, hb3⟩ | trivial
                    all_goals
                      go_wp2_with fail
                      first | exact ⟨⟨rfl, trivial⟩, Below.refl _ _⟩ | exact ⟨⟨trivial, trivial⟩, Below.refl _ _⟩
                  intro vs w5 hp hF hV hPr hL
                  have e14 : vs 14 = .int .i64 cy := hF 14 (by decide)
                  clear hF hV hPr hL
                  simp [stL, Act.put, e14]
                  generalize vs 15 = x15
                  generalize vs 16 = x16
                  clear e14
                  have HBn := Lib.hid (below_then HBm.out (HWE.out ▸ hp))
                  have HBW5 : Hid (Below w3.heap.size w3 w5) := Lib.hid (below_then HBWm.out (HWE.out ▸ hp))
                  clear hp HWE
                  obtain ⟨hd, hmv, rfl, -, hhm, hcm, -, -⟩ := (HH.out.grow HBW5.out).at_ (k := m) (by rw [HE5.out.1]; exact hmn)
                  have hgm : (htF l).getD m 0 = hmv := by rw [List.getD_eq_getElem?_getD, hhm]; rfl
                  have HGM := Lib.hid hgm
                  clear hhm hgm hcm
                  have HHB : Hid (∀ j, j < n → ∀ w', Below w5.heap.size w5 w' → w'.cell? (hd.add j) = some (.int .i64 ((htF l).getD j 0))) := fun j hj w' hb => by
                    obtain ⟨hd2, v2, e2, -, h5, h6, -, -⟩ := (HH.out.grow (below_then HBW5.out hb)).at_ (k := j) (by rw [HE5.out.1]; exact hj)
                    obtain rfl : hd = hd2 := Option.some.inj e2
                    rw [List.getD_eq_getElem?_getD, h5]; exact h6
                  have hz1 : ∀ n : Ext w5, n.to.cell? (hd.add m) = some (.int .i64 hmv) := fun n => by rw [← HGM.out]; exact HHB.out m hmn _ n.below
                  have HZ1 := Lib.hid hz1
                  clear hz1 cT hdc
                  go_upto_region 19 with fail
                  rcases HSP2.out with ⟨hbb, -⟩ | ⟨kk, hkk, hbb, -⟩
                  · obtain ⟨rfl, rfl⟩ : b1 = -1 ∧ b2 = 0 := Prod.mk.inj hbb
                    obtain rfl : wv = 0 := HWV.out.trans (if_pos (by decide))
                    clear hbb
                    have HBT : Hid (betF l (htF l) (tmF o) ((-1), 0) m = true) := by
                      show (decide ((-1) < 0) || decide (issF (tmF o) (l.getD m Ins.zero) < 0) || (decide (issF (tmF o) (l.getD m Ins.zero) = 0) && decide ((htF l).getD ((-1) : Int).toNat 0 < (htF l).getD m 0))) = true
                      rw [HME.out]
                      rfl
                    refine wp_region_ext (by kernel_rfl) (by kernel_rfl) ?_
                    repeat (go_big_quiet_step (fail))
                    refine wpQuiet_nil ?_
                    rintro _ ⟨⟨w9, hb9⟩, rfl⟩
                    have HB9 := Lib.hid (below_then HBn.out hb9)
                    clear hb9
                    go_wp2_with fail
                    go_roundw
                    case rel => exact ⟨m + 1, (m : Int), M, cy, by omega, rfl, rfl, rfl, Lib.hid (by
                      show _ = _
                      rw [HBS.out, HF2.out, HBT.out, HME.out]; rfl), Lib.hid (by show cy = if (m : Int) < 0 then 0 else M + 1; rw [if_neg (by omega)]; exact HCY.out.symm), HB9⟩
                    case measure => simp [intOf]; omega
                  · obtain ⟨rfl, hb2e⟩ : b1 = (kk : Int) ∧ b2 = _ := Prod.mk.inj hbb
                    clear hbb hb2e
                    have hwv : wv = b2 + 1 := HWV.out.trans (if_neg (by omega))
                    have hcy : M + 1 = cy := HCY.out
                    have d0 : decide ((kk : Int) < 0) = false := decide_eq_false (by omega)
                    have t1 : ¬ (kk : Int) < 0 := by omega
                    by_cases hB : M < b2
                    · have dB : decide (M < b2) = true := decide_eq_true hB
                      have t2 : cy < wv := by omega
                      clear hwv hcy hB
                      have HBT : Hid (betF l (htF l) (tmF o) ((kk : Int), b2) m = true) := by
                        show (decide ((kk : Int) < 0) || decide (issF (tmF o) (l.getD m Ins.zero) < b2) || (decide (issF (tmF o) (l.getD m Ins.zero) = b2) && decide ((htF l).getD ((kk : Int) : Int).toNat 0 < (htF l).getD m 0))) = true
                        rw [HME.out]
                        rw [d0, dB]; rfl
                      refine wp_region_ext (by kernel_rfl) (by kernel_rfl) ?_
                      repeat (go_big_quiet_step (fail))
                      refine wpQuiet_nil ?_
                      rintro _ ⟨⟨w9, hb9⟩, rfl⟩
                      have HB9 := Lib.hid (below_then HBn.out hb9)
                      clear hb9
                      go_wp2_with fail
                      go_roundw
                      case rel => exact ⟨m + 1, (m : Int), M, cy, by omega, rfl, rfl, rfl, Lib.hid (by
                        show _ = _
                        rw [HBS.out, HF2.out, HBT.out, HME.out]; rfl), Lib.hid (by show cy = if (m : Int) < 0 then 0 else M + 1; rw [if_neg (by omega)]; exact HCY.out.symm), HB9⟩
                      case measure => simp [intOf]; omega
                    · have dB : decide (M < b2) = false := decide_eq_false hB
                      have t2 : ¬ cy < wv := by omega
                      by_cases hC : M = b2
                      · subst hC
                        obtain rfl : wv = cy := by omega
                        have dt2 : decide (wv < wv) = false := decide_eq_false t2
                        have t4 : (0 : Int) ≤ (kk : Int) := by omega
                        have t3 : (kk : Int) < (n : Int) := by omega
                        have hz1 := HZ1.out
                        obtain ⟨hkv, hhk⟩ : ∃ hkv, (htF l).getD kk 0 = hkv := ⟨_, rfl⟩
                        have HGK := Lib.hid hhk
                        have hz2 : ∀ n : Ext w5, n.to.cell? (hd.add kk) = some (.int .i64 hkv) := fun n => by rw [← HGK.out]; exact HHB.out kk (by omega) _ n.below
                        clear hhk hwv hcy hB
                        by_cases hD : hkv < hmv
                        · have dD : decide (hkv < hmv) = true := decide_eq_true hD
                          have HBT : Hid (betF l (htF l) (tmF o) ((kk : Int), M) m = true) := by
                            show (decide ((kk : Int) < 0) || decide (issF (tmF o) (l.getD m Ins.zero) < M) || (decide (issF (tmF o) (l.getD m Ins.zero) = M) && decide ((htF l).getD ((kk : Int) : Int).toNat 0 < (htF l).getD m 0))) = true
                            rw [HME.out]
                            rw [d0, dB, Int.toNat_natCast, HGK.out, HGM.out, dD, decide_eq_true (rfl : M = M)]; rfl
                          refine wp_region_ext (by kernel_rfl) (by kernel_rfl) ?_
                          repeat (go_big_quiet_step (fail))
                          refine wpQuiet_nil ?_
                          rintro _ ⟨⟨w9, hb9⟩, rfl⟩
                          have HB9 := Lib.hid (below_then HBn.out hb9)
                          clear hb9
                          go_wp2_with fail
                          go_roundw
                          case rel => exact ⟨m + 1, (m : Int), M, wv, by omega, rfl, rfl, rfl, Lib.hid (by
                            show _ = _
                            rw [HBS.out, HF2.out, HBT.out, HME.out]; rfl), Lib.hid (by show wv = if (m : Int) < 0 then 0 else M + 1; rw [if_neg (by omega)]; exact HCY.out.symm), HB9⟩
                          case measure => simp [intOf]; omega
                        · have dD : decide (hkv < hmv) = false := decide_eq_false hD
                          have HBT : Hid (betF l (htF l) (tmF o) ((kk : Int), M) m = false) := by
                            show (decide ((kk : Int) < 0) || decide (issF (tmF o) (l.getD m Ins.zero) < M) || (decide (issF (tmF o) (l.getD m Ins.zero) = M) && decide ((htF l).getD ((kk : Int) : Int).toNat 0 < (htF l).getD m 0))) = false
                            rw [HME.out]
                            rw [d0, dB, Int.toNat_natCast, HGK.out, HGM.out, dD]; simp
                          refine wp_region_ext (by kernel_rfl) (by kernel_rfl) ?_
                          repeat (go_big_quiet_step (fail))
                          refine wpQuiet_nil ?_
                          rintro _ ⟨⟨w9, hb9⟩, rfl⟩
                          have HB9 := Lib.hid (below_then HBn.out hb9)
                          clear hb9
                          go_wp2_with fail
                          go_roundw
                          case rel => exact ⟨m + 1, (kk : Int), M, wv, by omega, rfl, rfl, rfl, Lib.hid (by
                            show _ = _
                            rw [HBS.out, HF2.out, HBT.out]; rfl), HWV, HB9⟩
                          case measure => simp [intOf]; omega
                      · have dC : decide (M = b2) = false := decide_eq_false hC
                        have dt2 : decide (cy < wv) = false := decide_eq_false t2
                        have eC : (cy == wv) = false := by
                          have : cy ≠ wv := by omega
                          simpa using this
                        clear hwv hcy hB hC
                        have HBT : Hid (betF l (htF l) (tmF o) ((kk : Int), b2) m = false) := by
                          show (decide ((kk : Int) < 0) || decide (issF (tmF o) (l.getD m Ins.zero) < b2) || (decide (issF (tmF o) (l.getD m Ins.zero) = b2) && decide ((htF l).getD ((kk : Int) : Int).toNat 0 < (htF l).getD m 0))) = false
                          rw [HME.out]
                          rw [d0, dB, dC]; rfl
                        refine wp_region_ext (by kernel_rfl) (by kernel_rfl) ?_
                        repeat (go_big_quiet_step (fail))
                        refine wpQuiet_nil ?_
                        rintro _ ⟨⟨w9, hb9⟩, rfl⟩
                        have HB9 := Lib.hid (below_then HBn.out hb9)
                        clear hb9
                        go_wp2_with fail
                        go_roundw
                        case rel => exact ⟨m + 1, (kk : Int), b2, wv, by omega, rfl, rfl, rfl, Lib.hid (by
                          show _ = _
                          rw [HBS.out, HF2.out, HBT.out]; rfl), HWV, HB9⟩
                        case measure => simp [intOf]; omega
          · obtain rfl : m = n := by omega
            have hlo : ¬ (m : Int) < (m : Int) := by omega
            obtain ⟨ib, hib⟩ : ∃ x, l[kb]? = some x := ⟨_, List.getElem?_eq_getElem (by rw [HN.out]; exact HKB.out.1)⟩
            have hgd : l.getD kb Ins.zero = ib := by rw [List.getD_eq_getElem?_getD, hib]; rfl
            have HKE := Lib.hid (Prod.mk.inj (HBB.out.symm.trans HKB.out.2.1))
            obtain ⟨hk1, hk2⟩ := HKE.out
            subst hk1
            have HGS : Hid (gr l (htF l) (r + 1) = (tk.set kb true, o ++ [ib])) := by
              have := gr_succ (l := l) (H := htF l) (r := r) (k := kb) (f := b2) (by
                rw [HGR.out, HN.out]
                show bestB l (htF l) (tmF o) tk m = _
                exact HBB.out)
              rw [HGR.out, hgd] at this
              exact this
            have HIB := Lib.hid hib
            have hkbl : kb < m := HKB.out.1
            have HOTm := Lib.hid (HOT.out.grow HBm.out)
            have HOR1 := Lib.hid (HOR.out.grow HBm.out)
            have HBW1 := Lib.hid (HBW.out.trans (HBm.out.mono (Nat.le_of_lt HOT.out.block.2)))
            have cT := HOTm.out.cell HKB.out.2.2
            have fT := HOTm.out.free kb
            have t1 : (0 : Int) ≤ (kb : Int) := by omega
            have t2 : (kb : Int) < (m : Int) := by omega
            clear HKE hk2 hgd hib HBB HKB HOT HOR HBW HBm HWV
            go_upto_region 22 with fail
            have HOT7 := Lib.hid (HOTm.out.set kb true)
            have HOR7 := Lib.hid (HOR1.out.store (g := gT) (k := kb) (u := .bool true) HGG.out)
            have HBW7 := Lib.hid (below_set (k := kb) (u := .bool true) HBW1.out (Nat.le_refl gT))
            generalize wr.setCell ⟨gT, kb, none⟩ (.bool true) = w7 at HOT7 HOR7 HBW7 ⊢
            clear cT fT HOTm HOR1 HBW1
            have hie := HI0.out.grow (HGT.out ▸ HBW7.out)
            obtain ⟨ad, rfl, hs, hb, hir, oki⟩ := hie kb ib HIB.out
            have HIS := Lib.hid hs
            have HIR := Lib.hid hir
            have HSA : Hid (InsAt (w7.alloc (.cells ib.cells.toArray 48)) (some ⟨w7.heap.size, 0, none⟩) [ib]) := by
              obtain ⟨A1, c1, e1, -, h1⟩ := (OwnIR.single (w := w7) oki).form
              injection e1 with e1
              rw [e1]; exact h1
            have ha := (Below.refl w7.heap.size w7).alloc (Nat.le_refl _) (.cells ib.cells.toArray 48)
            have HOA := Lib.hid (HOR7.out.grow ha)
            clear hie hs hb hir oki
            go_upto_region 7 with (first
              | ((with_reducible show wpList _ _ _ (Oper.mk (some 120) (.load _ _) _ _ _ _ :: _) _ _); refine ld_insA HIS.out HIR.out rfl _ rfl rfl ?_)
              | ((with_reducible show wpList _ _ _ (Oper.mk (some 121) _ _ _ _ _ :: _) _ _); refine bld_ins1 (i := ib) rfl _ rfl rfl ?_)
              | ((with_reducible show wpList _ _ _ (Oper.mk (some 122) _ _ _ _ _ :: _) _ _); refine app_ins (w7.alloc (.cells ib.cells.toArray 48)) rfl _ _ rfl g2 (m := [ib]) rfl rfl HOA.out.1 HSA.out rfl (by rw [HOL.out]; omega) HOA.out.2 ?_; intro v10 w10 ho10 hb10))
            have HOT10 := Lib.hid ((HOT7.out.grow ha).underG hb10 HGG.out)
            have hgr : gT ≤ w7.heap.size := Nat.le_of_lt HOT7.out.block.2
            have HBW10 := Lib.hid ((HBW7.out.trans (ha.mono hgr)).trans (hb10.mono (Nat.le_of_lt HGG.out)))
            obtain ⟨A10, c10, e10, -, -⟩ := ho10.form
            rw [List.length_append, HOL.out] at e10
            have HOR10 : Hid (OwnG g2 w10 v10 (o ++ [ib])) := ⟨ho10, Nat.le_trans HOA.out.2 hb10.size⟩
            rw [e10] at HOR10 ⊢
            clear ho10 hb10 ha hgr e10
            go_wp2_with fail
            go_roundw
            case rel => exact ⟨r + 1, tk.set kb true, o ++ [ib], A10, c10, by omega, rfl, HGS, HOT10, HOR10, HBW10⟩
            case measure => simp [lenOf]; omega
      · obtain rfl : r = n := by omega
        have hlo : ¬ (r : Int) < (r : Int) := by omega
        go_wp2_with fail
        go_ret2
        have hgF : grF l = o := by unfold grF; rw [HN.out, HGR.out]
        rw [hgF]
        exact ⟨_, rfl, HOR.out.1.base (by have := HB0.out.size; have := HGT.out; have := HGG.out; omega), below_then HB0.out (HGT.out ▸ HBW.out)⟩
  · have hfl : fineF l = false := by simpa using hfl
    have e1 : depD l = [] := by unfold depD; rw [hfl]; rfl
    have e2 : depE l = 21 := by unfold depE; rw [hfl]; rfl
    have e3 : grD l = [] := by unfold grD; rw [hfl]; rfl
    rw [e1, e2] at CD
    rw [e2, e3]
    clear h hn hfl h9 e1 e2 e3
    go_enter Tryd.func21, Tryd.ntmps21
    go_wp2_with (go_at_call 37; (with_reducible refine CD.out.mono ?_); rintro e1 w1 ⟨DA, dc, rfl, hd, hb1⟩)
    go_ret2
    exact ⟨_, rfl, OwnIR.nil, hb1⟩
end Go.Proofs.YtpmbgcfnehplaaaDoor
