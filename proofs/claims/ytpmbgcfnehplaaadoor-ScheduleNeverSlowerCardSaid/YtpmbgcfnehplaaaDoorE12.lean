/- latency of package schedule and of the reference. -/
import Derived.Test.YtpmbgcfnehplaaaDoorE11
set_option linter.unusedVariables false
set_option linter.unusedSimpArgs false
namespace Go.Proofs.YtpmbgcfnehplaaaDoor
open Go.RowKit

/-- Does an instruction between i and k write v? -/
def hitF (l : List Ins) (v : Int) (i k : Nat) : Bool := (List.range k).any fun m => decide (i < m) && (l.getD m Ins.zero).wt.contains v
theorem hitF_start (l : List Ins) (v : Int) (i : Nat) : hitF l v i (i + 1) = false := by
  unfold hitF
  rw [List.any_eq_false]
  intro m hm
  have := List.mem_range.1 hm
  simp
  intro h
  omega
theorem hitF_succ {l : List Ins} {v : Int} {i k : Nat} (h : i < k) {x : Ins} (hx : l[k]? = some x) : hitF l v i (k + 1) = (hitF l v i k || x.wt.contains v) := by
  unfold hitF
  rw [List.range_succ, List.any_append]
  simp only [List.any_cons, List.any_nil, Bool.or_false, decide_eq_true h, Bool.true_and, List.getD_eq_getElem?_getD, hx, Option.getD_some]
theorem hitF_le {l : List Ins} {v : Int} {i k j : Nat} (h : i < k) (hkj : k < j) {x : Ins} (hx : l[k]? = some x) (hc : x.wt.contains v = true) : hitF l v i j = true := by
  unfold hitF
  rw [List.any_eq_true]
  refine ⟨k, List.mem_range.2 hkj, ?_⟩
  simp only [decide_eq_true h, Bool.true_and, List.getD_eq_getElem?_getD, hx, Option.getD_some]
  exact hc
theorem hitF_none {l : List Ins} {v : Int} {i j : Nat} (h : j ≤ i + 1) : hitF l v i j = false := by
  unfold hitF
  rw [List.any_eq_false]
  intro m hm
  have := List.mem_range.1 hm
  simp
  intro h
  omega
/-- The latency of x = l[i] for y = l[j]. -/
def latX (l : List Ins) (x y : Ins) (i j : Nat) : Int := if delayF x.op = 0 ∨ y.rd.contains x.a = false then 1 else if hitF l x.a i j then 1 else 1 + delayF x.op
def latP (l : List Ins) (i j : Nat) : Int := latX l (l.getD i Ins.zero) (l.getD j Ins.zero) i j
theorem latP_eq {l : List Ins} {i j : Nat} {x y : Ins} (hx : l[i]? = some x) (hy : l[j]? = some y) : latP l i j = latX l x y i j := by
  unfold latP
  rw [List.getD_eq_getElem?_getD, List.getD_eq_getElem?_getD, hx, hy]; rfl
theorem delayF_in (op : Int) : 0 ≤ delayF op ∧ delayF op ≤ 2 := by unfold delayF; split <;> (try split) <;> decide
theorem latP_in (l : List Ins) (i j : Nat) : 1 ≤ latP l i j ∧ latP l i j ≤ 3 := by
  unfold latP latX
  have := delayF_in (l.getD i Ins.zero).op
  split
  · decide
  · split
    · decide
    · omega
set_option maxRecDepth 100000 in
set_option maxHeartbeats 4000000 in
theorem sc_latency (A UA : Option Addr) (n c uc : Nat) (l : List Ins) (i j : Nat) (w : World) (h : InsAt w A l) (hu : UsesAt w UA l) (hn : l.length = n) (h9 : n ≤ 512) (hi : i < n) (hj : j < n) :
    Calls Tryd.prog 43 #[.slice A n c, .slice UA n uc, .int .i64 i, .int .i64 j] w fun e w' => e = .returned (.int .i64 (latP l i j)) ∧ Below w.heap.size w w' := by
  obtain ⟨x, hx⟩ : ∃ x, l[i]? = some x := ⟨_, List.getElem?_eq_getElem (by omega)⟩
  obtain ⟨y, hy⟩ : ∃ y, l[j]? = some y := ⟨_, List.getElem?_eq_getElem (by omega)⟩
  rw [latP_eq hx hy]
  obtain ⟨ad, rfl, hs, hb, hrx, okx⟩ := h i x hx
  obtain ⟨ud, B, b, C, c2, rfl, us, ub, huy, r1, r2⟩ := hu j y hy
  have fx := ins_cells hs hrx
  have CD : Hid (∀ w, Calls Tryd.prog 35 #[.int .i64 x.op] w fun e w' => e = .returned (.int .i64 (delayF x.op)) ∧ w = w') := fun w => sc_delay x.op w
  have CY : Hid (∀ w1, Below w.heap.size w w1 → Calls Tryd.prog 55 #[.slice B y.rd.length b, .int .i64 x.a] w1 fun e w' => e = .returned (.bool (y.rd.contains x.a)) ∧ w1 = w') := fun w1 hb => sl_Contains B y.rd b _ x.a w1 rfl (by have := rd_len y; omega) (r1.grow hb)
  have HU := Lib.hid hu
  have HX := Lib.hid hx
  have HN := Lib.hid hn
  have HS := Lib.hid hs
  have hz1 : ∀ n : Ext w, n.to.cell? (ud.add (j * 2)) = some (.slice B y.rd.length b) := fun n => (n.cell _ (by rw [add_noneI us]; exact ub)).trans (by rw [add_noneI us]; exact huy 0 _ rfl)
  have hz2 : ∀ n : Ext w, n.to.cell? ⟨(ad.add (i * 4)).block, (ad.add (i * 4)).off + 1, none⟩ = some (.int .i64 x.a) := fun n => (n.cell _ (by rw [add_noneI hs]; exact hb)).trans fx.2.1
  have HZ1 := Lib.hid hz1
  have HZ2 := Lib.hid hz2
  have g1 := fx.1
  have q1 : (0 : Int) ≤ (i : Int) := by omega
  have q2 : (i : Int) < (n : Int) := by omega
  have q3 : (0 : Int) ≤ (j : Int) := by omega
  have q4 : (j : Int) < (n : Int) := by omega
  have wi : IntKind.i64.wrap ((i : Int) + 1) = ((i + 1 : Nat) : Int) := (IntWalk.i64_in _ (by omega)).trans (by omega)
  have hdl := delayF_in x.op
  have HR : Hid (latX l x y i j = if delayF x.op = 0 ∨ y.rd.contains x.a = false then 1 else if hitF l x.a i j then 1 else 1 + delayF x.op) := rfl
  obtain ⟨R, hR⟩ : ∃ R, latX l x y i j = R := ⟨_, rfl⟩
  rw [hR] at HR ⊢
  clear hR fx h hu hx hy hn hs huy r1 r2 us ub hrx okx hb hz1 hz2
  obtain ⟨D, hD⟩ : ∃ D, delayF x.op = D := ⟨_, rfl⟩
  obtain ⟨K, hK⟩ : ∃ K, y.rd.contains x.a = K := ⟨_, rfl⟩
  rw [hD] at CD HR hdl
  rw [hK] at CY HR
  clear hD hK
  have wd : IntKind.i64.wrap (1 + D) = 1 + D := IntWalk.i64_in _ (by omega)
  by_cases hD0 : D = 0
  · subst hD0
    have hR1 : R = 1 := by rw [HR.out, if_pos (.inl rfl)]
    subst hR1
    go_enter Tryd.func43, Tryd.ntmps43
    go_upto_region 2 with (go_at_call 35; (with_reducible refine (CD.out _).mono ?_); rintro e1 w1 ⟨rfl, rfl⟩)
    refine wp_region_ext (by kernel_rfl) (by kernel_rfl) ?_
    repeat (go_big_quiet_step (fail))
    refine wpQuiet_nil ?_
    rintro _ ⟨⟨w1, hb1⟩, rfl⟩
    go_wp2_with fail
    go_ret
    exact ⟨rfl, hb1⟩
  · have e0 : (D == 0) = false := by simpa using hD0
    have d0 : decide (D = 0) = false := decide_eq_false hD0
    cases K with
    | false =>
      have hR1 : R = 1 := by rw [HR.out, if_pos (.inr rfl)]
      subst hR1
      have hz1 := HZ1.out
      have hz2 := HZ2.out
      go_enter Tryd.func43, Tryd.ntmps43
      go_upto_region 2 with (go_at_call 35; (with_reducible refine (CD.out _).mono ?_); rintro e1 w1 ⟨rfl, rfl⟩)
      refine wp_region_ext (by kernel_rfl) (by kernel_rfl) ?_
      repeat (go_big_quiet_step (first | (go_at_call 55; exact ext_same (CY.out _ (Ext.below _)))))
      refine wpQuiet_nil ?_
      rintro _ ⟨⟨w1, hb1⟩, rfl⟩
      go_wp2_with fail
      go_ret
      exact ⟨rfl, hb1⟩
    | true =>
      have HR2 : Hid (R = if hitF l x.a i j then 1 else 1 + D) := by
        show _ = _
        rw [HR.out, if_neg (fun hc => hc.elim hD0 (fun h => by cases h))]
      clear HR
      have hz1 := HZ1.out
      have hz2 := HZ2.out
      go_enter Tryd.func43, Tryd.ntmps43
      go_upto_region 2 with (go_at_call 35; (with_reducible refine (CD.out _).mono ?_); rintro e1 w1 ⟨rfl, rfl⟩)
      refine wp_region_ext (by kernel_rfl) (by kernel_rfl) ?_
      repeat (go_big_quiet_step (first | (go_at_call 55; exact ext_same (CY.out _ (Ext.below _)))))
      refine wpQuiet_nil ?_
      rintro _ ⟨⟨w1, hb1⟩, rfl⟩
      have HB1 := Lib.hid hb1
      clear hz1 hz2 hb1 g1 CY CD
      go_wp2_with fail
      go_loopw [10] (fun v wr => ∃ k : Nat, i < k ∧ (k ≤ j ∨ k = i + 1) ∧ v = .int .i64 k ∧ Hid (hitF l x.a i k = false) ∧ Hid (Below w.heap.size w wr)) (fun v _ => j - (intOf v).toNat)
      case atStart => exact ⟨i + 1, by omega, by omega, by go_num, Lib.hid (hitF_start l x.a i), HB1⟩
      case round =>
        obtain ⟨k, hik, hkj, rfl, HH, HB⟩ := hrel
        by_cases hlt : k < j
        · obtain ⟨z, hz⟩ : ∃ z, l[k]? = some z := ⟨_, List.getElem?_eq_getElem (by have := HN.out; omega)⟩
          obtain ⟨ud2, B2, b2, C2, c3, e2, us, ub, huz, r1, r2⟩ := (HU.out.grow HB.out) k z hz
          obtain rfl : ud = ud2 := Option.some.inj e2
          have p1 : (0 : Int) ≤ (k : Int) := by omega
          have p2 : (k : Int) < (n : Int) := by omega
          have p3 : (k : Int) < (j : Int) := by omega
          have wk : IntKind.i64.wrap ((k : Int) + 1) = ((k + 1 : Nat) : Int) := (IntWalk.i64_in _ (by omega)).trans (by omega)
          have hz3 : ∀ n : Ext wr, n.to.cell? ⟨(ud.add (k * 2)).block, (ud.add (k * 2)).off + 1, none⟩ = some (.slice C2 z.wt.length c3) := fun n => (n.cell _ (by rw [add_noneI us]; exact ub)).trans (by rw [add_noneI us]; exact huz 1 _ rfl)
          have hz4 : ∀ n : Ext wr, n.to.cell? ⟨(ad.add (i * 4)).block, (ad.add (i * 4)).off + 1, none⟩ = some (.int .i64 x.a) := fun n => HZ2.out ⟨n.to, below_then HB.out n.below⟩
          have CZ : Hid (∀ w1, Below wr.heap.size wr w1 → Calls Tryd.prog 55 #[.slice C2 z.wt.length c3, .int .i64 x.a] w1 fun e w' => e = .returned (.bool (z.wt.contains x.a)) ∧ w1 = w') := fun w1 hb => sl_Contains C2 z.wt c3 _ x.a w1 rfl (by have := wt_len z; omega) (r2.grow hb)
          have HZ := Lib.hid hz
          obtain ⟨K2, hK2⟩ : ∃ K2, z.wt.contains x.a = K2 := ⟨_, rfl⟩
          have HK2 := Lib.hid hK2
          rw [hK2] at CZ
          clear hz huz r1 r2 us ub hK2 e2
          cases K2 with
          | true =>
            have hR1 : R = 1 := by rw [HR2.out, if_pos (hitF_le hik hlt HZ.out HK2.out)]
            subst hR1
            go_upto_region 7 with fail
            refine wp_region_ext (by kernel_rfl) (by kernel_rfl) ?_
            repeat (go_big_quiet_step (first | (go_at_call 55; exact ext_same (CZ.out _ (Ext.below _)))))
            refine wpQuiet_nil ?_
            rintro _ ⟨⟨w3, hb3⟩, rfl⟩
            go_wp2_with fail
            go_ret
            exact ⟨rfl, below_then HB.out hb3⟩
          | false =>
            go_upto_region 7 with fail
            refine wp_region_ext (by kernel_rfl) (by kernel_rfl) ?_
            repeat (go_big_quiet_step (first | (go_at_call 55; exact ext_same (CZ.out _ (Ext.below _)))))
            refine wpQuiet_nil ?_
            rintro _ ⟨⟨w3, hb3⟩, rfl⟩
            go_wp2_with fail
            go_roundw
            case rel => exact ⟨k + 1, by omega, by omega, rfl, Lib.hid (by show _ = _; rw [hitF_succ hik HZ.out, HH.out, HK2.out]; rfl), Lib.hid (below_then HB.out hb3)⟩
            case measure => simp [intOf]; omega
        · have hlo : ¬ (k : Int) < (j : Int) := by omega
          have hR1 : R = 1 + D := by
            rw [HR2.out]
            have : hitF l x.a i j = false := by
              rcases hkj with h | h
              · obtain rfl : k = j := by omega
                exact HH.out
              · exact hitF_none (by omega)
            rw [this]; rfl
          subst hR1
          go_wp2_with fail
          go_ret
          exact ⟨rfl, HB.out⟩
theorem delay_ne {op : Int} (h6 : op ≠ 6) (h5 : op ≠ 5) : delayF op = 0 := by unfold delayF; rw [if_neg h6, if_neg h5]
set_option maxRecDepth 100000 in
set_option maxHeartbeats 8000000 in
theorem r40_latency (A : Option Addr) (n c : Nat) (l : List Ins) (i j : Nat) (w : World) (h : InsAt w A l) (hn : l.length = n) (h9 : n ≤ 512) (hi : i < n) (hj : j < n) :
    Calls Tryd.prog 53 #[.slice A n c, .int .i64 i, .int .i64 j] w fun e w' => e = .returned (.int .i64 (latP l i j)) ∧ Below w.heap.size w w' := by
  obtain ⟨x, hx⟩ : ∃ x, l[i]? = some x := ⟨_, List.getElem?_eq_getElem (by omega)⟩
  obtain ⟨y, hy⟩ : ∃ y, l[j]? = some y := ⟨_, List.getElem?_eq_getElem (by omega)⟩
  rw [latP_eq hx hy]
  have HI := Lib.hid h
  obtain ⟨ad, rfl, hs, hb, hrx, okx⟩ := h i x hx
  obtain ⟨ad2, e2, -, -, hry, oky⟩ := HI.out j y hy
  obtain rfl : ad = ad2 := Option.some.inj e2
  have FX : Hid (∀ w1, Below w.heap.size w w1 → w1.cell? (ad.add (i * 4)) = some (.int .i64 x.op) ∧ w1.cell? ⟨(ad.add (i * 4)).block, (ad.add (i * 4)).off + 1, none⟩ = some (.int .i64 x.a)) := fun w1 hb1 =>
    ⟨(ins_cells hs (range_keepI hrx hb hb1)).1, (ins_cells hs (range_keepI hrx hb hb1)).2.1⟩
  have HX := Lib.hid hx
  have HN := Lib.hid hn
  have HS := Lib.hid hs
  have HY := Lib.hid hry
  have q1 : (0 : Int) ≤ (i : Int) := by omega
  have q2 : (i : Int) < (n : Int) := by omega
  have q3 : (0 : Int) ≤ (j : Int) := by omega
  have q4 : (j : Int) < (n : Int) := by omega
  have wi : IntKind.i64.wrap ((i : Int) + 1) = ((i + 1 : Nat) : Int) := (IntWalk.i64_in _ (by omega)).trans (by omega)
  have HR : Hid (latX l x y i j = if delayF x.op = 0 ∨ y.rd.contains x.a = false then 1 else if hitF l x.a i j then 1 else 1 + delayF x.op) := rfl
  have CU : Hid (Calls Tryd.prog 41 #[y.v] w (RetII w y.rd y.wt)) := r38_Uses y w oky
  obtain ⟨R, hR⟩ : ∃ R, latX l x y i j = R := ⟨_, rfl⟩
  rw [hR] at HR ⊢
  obtain ⟨op, hop⟩ : ∃ op, x.op = op := ⟨_, rfl⟩
  obtain ⟨va, hva⟩ : ∃ va, x.a = va := ⟨_, rfl⟩
  rw [hop, hva] at FX HR
  obtain ⟨f0, f1⟩ := FX.out w (Below.refl _ _)
  obtain ⟨K, hK⟩ : ∃ K, y.rd.contains va = K := ⟨_, rfl⟩
  have HK := Lib.hid hK
  rw [hK] at HR
  clear hR h hx hy hn hs hrx hry okx oky e2 hb hop hva hK
  have main : ∀ d : Int, (op = 6 ∧ d = 1) ∨ (op = 5 ∧ d = 2) → Calls Tryd.prog 53 #[.slice (some ad) n c, .int .i64 i, .int .i64 j] w fun e w' => e = .returned (.int .i64 R) ∧ Below w.heap.size w w' := by
    intro d hd
    have HR1 : Hid (R = if K = false then 1 else if hitF l va i j then 1 else 1 + d) := by
      show _ = _
      rw [HR.out]
      rcases hd with ⟨rfl, rfl⟩ | ⟨rfl, rfl⟩
      · rw [show delayF 6 = 1 from rfl]; cases K <;> simp
      · rw [show delayF 5 = 2 from rfl]; cases K <;> simp
    have HD := Lib.hid hd
    have hg5 : decide (op = 6) = decide (d = 1) := by rcases hd with ⟨rfl, rfl⟩ | ⟨rfl, rfl⟩ <;> rfl
    clear HR
    rcases hd with ⟨rfl, rfl⟩ | ⟨rfl, rfl⟩
    · clear hg5
      cases K with
      | false =>
        have hR1 : R = 1 := by rw [HR1.out, if_pos rfl]
        subst hR1
        go_enter Tryd.func53, Tryd.ntmps53
        go_wp2_with (first
          | ((with_reducible show wpList _ _ _ (Oper.mk (some 30) (.load _ _) _ _ _ _ :: _) _ _); refine ld_insA HS.out HY.out rfl _ rfl rfl ?_)
          | (go_at_call 41; (with_reducible refine CU.out.mono ?_); rintro e1 w2 ⟨RA, WA, rc, wc, rfl, hra, hwa, hb2⟩; have CH := Lib.hid (r40_has RA y.rd rc _ va w2 rfl (by have := rd_len y; omega) hra.1); rw [HK.out] at CH; obtain ⟨f0, f1⟩ := FX.out _ hb2)
          | (go_at_call 64; (with_reducible refine CH.out.mono ?_); rintro e1 w3 ⟨rfl, rfl⟩))
        go_ret
        exact ⟨rfl, hb2⟩
      | true =>
        have HR2 : Hid (R = if hitF l va i j then 1 else 1 + 1) := by
          show _ = _
          rw [HR1.out, if_neg (fun hc => by cases hc)]
        clear HR1
        go_enter Tryd.func53, Tryd.ntmps53
        go_upto_region 6 with (first
          | ((with_reducible show wpList _ _ _ (Oper.mk (some 30) (.load _ _) _ _ _ _ :: _) _ _); refine ld_insA HS.out HY.out rfl _ rfl rfl ?_)
          | (go_at_call 41; (with_reducible refine CU.out.mono ?_); rintro e1 w2 ⟨RA, WA, rc, wc, rfl, hra, hwa, hb2⟩; have CH := Lib.hid (r40_has RA y.rd rc _ va w2 rfl (by have := rd_len y; omega) hra.1); rw [HK.out] at CH; obtain ⟨f0, f1⟩ := FX.out _ hb2)
          | (go_at_call 64; (with_reducible refine CH.out.mono ?_); rintro e1 w3 ⟨rfl, rfl⟩))
        have HB2 := Lib.hid hb2
        clear hb2 f0 f1 CU CH
        go_wp2_with fail
        go_loopw [9] (fun v wr => ∃ k : Nat, i < k ∧ (k ≤ j ∨ k = i + 1) ∧ v = .int .i64 k ∧ Hid (hitF l va i k = false) ∧ Hid (Below w.heap.size w wr)) (fun v _ => j - (intOf v).toNat)
        case atStart => exact ⟨i + 1, by omega, by omega, by go_num, Lib.hid (hitF_start l va i), HB2⟩
        case round =>
          obtain ⟨k, hik, hkj, rfl, HH, HB⟩ := hrel
          by_cases hlt : k < j
          · obtain ⟨z, hz⟩ : ∃ z, l[k]? = some z := ⟨_, List.getElem?_eq_getElem (by have := HN.out; omega)⟩
            obtain ⟨ad2, e2, -, -, hrz, okz⟩ := (HI.out.grow HB.out) k z hz
            obtain rfl : ad = ad2 := Option.some.inj e2
            have p1 : (0 : Int) ≤ (k : Int) := by omega
            have p2 : (k : Int) < (n : Int) := by omega
            have p3 : (k : Int) < (j : Int) := by omega
            have wk : IntKind.i64.wrap ((k : Int) + 1) = ((k + 1 : Nat) : Int) := (IntWalk.i64_in _ (by omega)).trans (by omega)
            have HZR := Lib.hid hrz
            have CZ : Hid (Calls Tryd.prog 41 #[z.v] wr (RetII wr z.rd z.wt)) := r38_Uses z wr okz
            have HZ := Lib.hid hz
            obtain ⟨K2, hK2⟩ : ∃ K2, z.wt.contains va = K2 := ⟨_, rfl⟩
            have HK2 := Lib.hid hK2
            clear hz hrz okz hK2 e2
            cases K2 with
            | true =>
              have hR1 : R = 1 := by rw [HR2.out, if_pos (hitF_le hik hlt HZ.out HK2.out)]
              subst hR1
              go_wp2_with (first
                | ((with_reducible show wpList _ _ _ (Oper.mk (some 53) (.load _ _) _ _ _ _ :: _) _ _); refine ld_insA HS.out HZR.out rfl _ rfl rfl ?_)
                | (go_at_call 41; (with_reducible refine CZ.out.mono ?_); rintro e1 w3 ⟨RA, WA, rc, wc, rfl, hra, hwa, hb3⟩; have CH := Lib.hid (r40_has WA z.wt wc _ va w3 rfl (by have := wt_len z; omega) hwa.1); rw [HK2.out] at CH; obtain ⟨f0, f1⟩ := FX.out _ (below_then HB.out hb3))
                | (go_at_call 64; (with_reducible refine CH.out.mono ?_); rintro e1 w4 ⟨rfl, rfl⟩))
              go_ret
              exact ⟨rfl, below_then HB.out hb3⟩
            | false =>
              go_wp2_with (first
                | ((with_reducible show wpList _ _ _ (Oper.mk (some 53) (.load _ _) _ _ _ _ :: _) _ _); refine ld_insA HS.out HZR.out rfl _ rfl rfl ?_)
                | (go_at_call 41; (with_reducible refine CZ.out.mono ?_); rintro e1 w3 ⟨RA, WA, rc, wc, rfl, hra, hwa, hb3⟩; have CH := Lib.hid (r40_has WA z.wt wc _ va w3 rfl (by have := wt_len z; omega) hwa.1); rw [HK2.out] at CH; obtain ⟨f0, f1⟩ := FX.out _ (below_then HB.out hb3))
                | (go_at_call 64; (with_reducible refine CH.out.mono ?_); rintro e1 w4 ⟨rfl, rfl⟩))
              go_roundw
              case rel => exact ⟨k + 1, by omega, by omega, rfl, Lib.hid (by show _ = _; rw [hitF_succ hik HZ.out, HH.out, HK2.out]; rfl), Lib.hid (below_then HB.out hb3)⟩
              case measure => simp [intOf]; omega
          · have hlo : ¬ (k : Int) < (j : Int) := by omega
            have hR1 : R = 1 + 1 := by
              rw [HR2.out]
              have : hitF l va i j = false := by
                rcases hkj with h | h
                · obtain rfl : k = j := by omega
                  exact HH.out
                · exact hitF_none (by omega)
              rw [this]; rfl
            subst hR1
            obtain ⟨f0, f1⟩ := FX.out _ HB.out
            go_wp2_with fail
            go_ret
            exact ⟨rfl, HB.out⟩
    · clear hg5
      cases K with
      | false =>
        have hR1 : R = 1 := by rw [HR1.out, if_pos rfl]
        subst hR1
        go_enter Tryd.func53, Tryd.ntmps53
        go_wp2_with (first
          | ((with_reducible show wpList _ _ _ (Oper.mk (some 30) (.load _ _) _ _ _ _ :: _) _ _); refine ld_insA HS.out HY.out rfl _ rfl rfl ?_)
          | (go_at_call 41; (with_reducible refine CU.out.mono ?_); rintro e1 w2 ⟨RA, WA, rc, wc, rfl, hra, hwa, hb2⟩; have CH := Lib.hid (r40_has RA y.rd rc _ va w2 rfl (by have := rd_len y; omega) hra.1); rw [HK.out] at CH; obtain ⟨f0, f1⟩ := FX.out _ hb2)
          | (go_at_call 64; (with_reducible refine CH.out.mono ?_); rintro e1 w3 ⟨rfl, rfl⟩))
        go_ret
        exact ⟨rfl, hb2⟩
      | true =>
        have HR2 : Hid (R = if hitF l va i j then 1 else 1 + 2) := by
          show _ = _
          rw [HR1.out, if_neg (fun hc => by cases hc)]
        clear HR1
        go_enter Tryd.func53, Tryd.ntmps53
        go_upto_region 6 with (first
          | ((with_reducible show wpList _ _ _ (Oper.mk (some 30) (.load _ _) _ _ _ _ :: _) _ _); refine ld_insA HS.out HY.out rfl _ rfl rfl ?_)
          | (go_at_call 41; (with_reducible refine CU.out.mono ?_); rintro e1 w2 ⟨RA, WA, rc, wc, rfl, hra, hwa, hb2⟩; have CH := Lib.hid (r40_has RA y.rd rc _ va w2 rfl (by have := rd_len y; omega) hra.1); rw [HK.out] at CH; obtain ⟨f0, f1⟩ := FX.out _ hb2)
          | (go_at_call 64; (with_reducible refine CH.out.mono ?_); rintro e1 w3 ⟨rfl, rfl⟩))
        have HB2 := Lib.hid hb2
        clear hb2 f0 f1 CU CH
        go_wp2_with fail
        go_loopw [9] (fun v wr => ∃ k : Nat, i < k ∧ (k ≤ j ∨ k = i + 1) ∧ v = .int .i64 k ∧ Hid (hitF l va i k = false) ∧ Hid (Below w.heap.size w wr)) (fun v _ => j - (intOf v).toNat)
        case atStart => exact ⟨i + 1, by omega, by omega, by go_num, Lib.hid (hitF_start l va i), HB2⟩
        case round =>
          obtain ⟨k, hik, hkj, rfl, HH, HB⟩ := hrel
          by_cases hlt : k < j
          · obtain ⟨z, hz⟩ : ∃ z, l[k]? = some z := ⟨_, List.getElem?_eq_getElem (by have := HN.out; omega)⟩
            obtain ⟨ad2, e2, -, -, hrz, okz⟩ := (HI.out.grow HB.out) k z hz
            obtain rfl : ad = ad2 := Option.some.inj e2
            have p1 : (0 : Int) ≤ (k : Int) := by omega
            have p2 : (k : Int) < (n : Int) := by omega
            have p3 : (k : Int) < (j : Int) := by omega
            have wk : IntKind.i64.wrap ((k : Int) + 1) = ((k + 1 : Nat) : Int) := (IntWalk.i64_in _ (by omega)).trans (by omega)
            have HZR := Lib.hid hrz
            have CZ : Hid (Calls Tryd.prog 41 #[z.v] wr (RetII wr z.rd z.wt)) := r38_Uses z wr okz
            have HZ := Lib.hid hz
            obtain ⟨K2, hK2⟩ : ∃ K2, z.wt.contains va = K2 := ⟨_, rfl⟩
            have HK2 := Lib.hid hK2
            clear hz hrz okz hK2 e2
            cases K2 with
            | true =>
              have hR1 : R = 1 := by rw [HR2.out, if_pos (hitF_le hik hlt HZ.out HK2.out)]
              subst hR1
              go_wp2_with (first
                | ((with_reducible show wpList _ _ _ (Oper.mk (some 53) (.load _ _) _ _ _ _ :: _) _ _); refine ld_insA HS.out HZR.out rfl _ rfl rfl ?_)
                | (go_at_call 41; (with_reducible refine CZ.out.mono ?_); rintro e1 w3 ⟨RA, WA, rc, wc, rfl, hra, hwa, hb3⟩; have CH := Lib.hid (r40_has WA z.wt wc _ va w3 rfl (by have := wt_len z; omega) hwa.1); rw [HK2.out] at CH; obtain ⟨f0, f1⟩ := FX.out _ (below_then HB.out hb3))
                | (go_at_call 64; (with_reducible refine CH.out.mono ?_); rintro e1 w4 ⟨rfl, rfl⟩))
              go_ret
              exact ⟨rfl, below_then HB.out hb3⟩
            | false =>
              go_wp2_with (first
                | ((with_reducible show wpList _ _ _ (Oper.mk (some 53) (.load _ _) _ _ _ _ :: _) _ _); refine ld_insA HS.out HZR.out rfl _ rfl rfl ?_)
                | (go_at_call 41; (with_reducible refine CZ.out.mono ?_); rintro e1 w3 ⟨RA, WA, rc, wc, rfl, hra, hwa, hb3⟩; have CH := Lib.hid (r40_has WA z.wt wc _ va w3 rfl (by have := wt_len z; omega) hwa.1); rw [HK2.out] at CH; obtain ⟨f0, f1⟩ := FX.out _ (below_then HB.out hb3))
                | (go_at_call 64; (with_reducible refine CH.out.mono ?_); rintro e1 w4 ⟨rfl, rfl⟩))
              go_roundw
              case rel => exact ⟨k + 1, by omega, by omega, rfl, Lib.hid (by show _ = _; rw [hitF_succ hik HZ.out, HH.out, HK2.out]; rfl), Lib.hid (below_then HB.out hb3)⟩
              case measure => simp [intOf]; omega
          · have hlo : ¬ (k : Int) < (j : Int) := by omega
            have hR1 : R = 1 + 2 := by
              rw [HR2.out]
              have : hitF l va i j = false := by
                rcases hkj with h | h
                · obtain rfl : k = j := by omega
                  exact HH.out
                · exact hitF_none (by omega)
              rw [this]; rfl
            subst hR1
            obtain ⟨f0, f1⟩ := FX.out _ HB.out
            go_wp2_with fail
            go_ret
            exact ⟨rfl, HB.out⟩
  by_cases h6 : op = 6
  · exact main 1 (.inl ⟨h6, rfl⟩)
  · by_cases h5 : op = 5
    · exact main 2 (.inr ⟨h5, rfl⟩)
    · have hR1 : R = 1 := by rw [HR.out, if_pos (.inl (delay_ne h6 h5))]
      subst hR1
      have e6 : (op == 6) = false := by simpa using h6
      have e5 : (op == 5) = false := by simpa using h5
      clear main
      go_enter Tryd.func53, Tryd.ntmps53
      go_wp2_with fail
      go_ret
      exact ⟨rfl, Below.refl _ _⟩
end Go.Proofs.YtpmbgcfnehplaaaDoor
