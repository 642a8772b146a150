/- Two rows of the call's own that grow in one statement; the walk of the reference's Analyse. -/
import Derived.Test.YtmdfgidejdiiiaadR1toR2
set_option linter.unusedVariables false
set_option linter.unusedSimpArgs false
namespace Go.Proofs.Ytmdfgidejdiiiaa
open Go.RowKit
def Own2 (base : Nat) (w : World) (va vb : Value) (la lb : List Int) : Prop := Own base w va la ∧ Own base w vb lb ∧ (va.ownBlock = none ∨ va.ownBlock ≠ vb.ownBlock)
theorem Own2.grow {base : Nat} {w w' : World} {va vb : Value} {la lb : List Int} (h : Own2 base w va vb la lb) (hb : Below w.heap.size w w') : Own2 base w' va vb la lb := ⟨h.1.grow hb, h.2.1.grow hb, h.2.2⟩
theorem Own2.swap {base : Nat} {w : World} {va vb : Value} {la lb : List Int} (h : Own2 base w va vb la lb) : Own2 base w vb va lb la := by
  refine ⟨h.2.1, h.1, ?_⟩
  rcases h.2.2 with h1 | h1
  · rcases hvb : vb.ownBlock with _ | b
    · exact .inl rfl
    · exact .inr (by rw [h1]; simp)
  · exact .inr (fun e => h1 e.symm)
theorem run_app2 (W : World) (base : Nat) (ty : TypeId) (va vb : Value) (la lb m : List Int) (A : Option Addr) (c : Nat) (h2 : Own2 base W va vb la lb) (hI : Ints W A m) (hn : la.length + m.length ≤ 100000000) (hbase : base ≤ W.heap.size) :
    ∃ v' w', (Builtin.append_ #[33, 33] ty #[va, .slice A m.length c]).run Try.prog W = .ok v' w' ∧ Own2 base w' v' vb (la ++ m) lb ∧ W.grownBy w' va.ownBlock ∧ Below base W w' := by
  obtain ⟨h1, h2, h3⟩ := h2
  obtain ⟨v', w', hrun, k1, k2, k3⟩ := run_app_ints W base ty va la m A c h1 hI hn hbase
  refine ⟨v', w', hrun, ⟨k1, h2.kept k2 ?_, ?_⟩, k2, (Below.refl base W).grown k2 hbase (fun k hk => (h1.1.lt k hk).1)⟩
  · rcases h3 with h3 | h3
    · rcases hvb : vb.ownBlock with _ | b
      · exact .inl rfl
      · exact .inr (by rw [h3]; simp)
    · exact .inr (fun e => h3 e.symm)
  · rcases k3 with k3 | k3
    · rw [k3]; exact h3
    · refine .inr ?_
      rw [k3]
      intro e
      have := (h2.1.lt _ e.symm).2
      omega
theorem step_app2a {ops : Array Oper} {o : Oper} {a : Act} {K : Act → World → Prop} {Q : Exit → Act → World → Prop} {E : Prop} (W : World) (hw : Region.wanted o (yielded ops a.tmps) = true) (s x : Operand)
    (ho : o.op = .call { callee := .builtin .append, args := #[s, x], argTypes := #[33, 33] }) (base : Nat) (vb : Value) (la lb m : List Int)
    (h2 : Own2 base W (a.eval s) vb la lb) (hx : ∃ A n c, a.eval x = .slice A n c ∧ Ints W A m ∧ m.length = n) (hn : la.length + m.length ≤ 100000000) (hbase : base ≤ W.heap.size)
    (h : ∀ v' w', Own2 base w' v' vb (la ++ m) lb → W.grownBy w' (a.eval s).ownBlock → Below base W w' → K (a.put o.dst v') w') :
    if Region.wanted o (yielded ops a.tmps) = true then Oper.wp Try.prog o a W K Q else E := by
  rw [if_pos hw]
  obtain ⟨A, n, c, hx, hI, rfl⟩ := hx
  obtain ⟨v', w', hrun, k1, k2, k3⟩ := run_app2 W base o.type (a.eval s) vb la lb m A c h2 hI hn hbase
  unfold Oper.wp execOp
  simp only [ho, resolve, invoke, builtin, Sem.run_bind, Sem.run_pure, Result.andThen_ok, List.map_toArray, List.map_cons, List.map_nil, hx, hrun]
  exact h _ _ k1 k2 k3
theorem step_app2b {ops : Array Oper} {o : Oper} {a : Act} {K : Act → World → Prop} {Q : Exit → Act → World → Prop} {E : Prop} (W : World) (hw : Region.wanted o (yielded ops a.tmps) = true) (s x : Operand)
    (ho : o.op = .call { callee := .builtin .append, args := #[s, x], argTypes := #[33, 33] }) (base : Nat) (va : Value) (la lb m : List Int)
    (h2 : Own2 base W va (a.eval s) la lb) (hx : ∃ A n c, a.eval x = .slice A n c ∧ Ints W A m ∧ m.length = n) (hn : lb.length + m.length ≤ 100000000) (hbase : base ≤ W.heap.size)
    (h : ∀ v' w', Own2 base w' va v' la (lb ++ m) → W.grownBy w' (a.eval s).ownBlock → Below base W w' → K (a.put o.dst v') w') :
    if Region.wanted o (yielded ops a.tmps) = true then Oper.wp Try.prog o a W K Q else E :=
  step_app2a W hw s x ho base va lb la m h2.swap hx hn hbase fun v' w' k1 k2 k3 => h v' w' k1.swap k2 k3
theorem litT2 {w w' : World} {x : Int} {t : TypeId} {o : Obj} {r : Option Nat} (hx : I64 x) (hg : ((w.alloc o).alloc (.cells #[.int .i64 x] t)).drew.grownBy w' r) (hr : ∀ b, r = some b → b < w.heap.size) : Ints w' (some ⟨w.heap.size + 1, 0, none⟩) [x] := by
  have h0 := lit_one (w := w.alloc o) (t := t) hx
  rw [show (w.alloc o).heap.size = w.heap.size + 1 by simp] at h0
  exact (h0.grow ((Below.refl _ _).drew)).kept hg (fun _ ad e h => by injection e with e; subst e; have := hr _ h.symm; simp at this; omega)
theorem litT3 {w w' : World} {x : Int} {t : TypeId} {o : Obj} {r : Option Nat} (hx : I64 x) (hg : ((w.alloc (.cells #[.int .i64 x] t)).alloc o).drew.grownBy w' r) (hr : ∀ b, r = some b → b < w.heap.size) : Ints w' (some ⟨w.heap.size, 0, none⟩) [x] :=
  ((lit_one hx).grow ((Below.refl _ _).alloc (Nat.le_refl _) _).drew).kept hg (fun _ ad e h => by injection e with e; subst e; have := hr _ h.symm; simp at this)
theorem lit_oneD {w : World} {x : Int} {t : TypeId} (hx : I64 x) : Ints (w.alloc (.cells #[.int .i64 x] t)).drew (some ⟨w.heap.size, 0, none⟩) [x] := (lit_one hx).grow ((Below.refl _ _).drew)
theorem lit_oneG {w : World} {x : Int} {t : TypeId} {o : Obj} (hx : I64 x) : Ints ((w.alloc (.cells #[.int .i64 x] t)).alloc o).drew (some ⟨w.heap.size, 0, none⟩) [x] := (lit_one hx).grow ((Below.refl _ _).alloc (Nat.le_refl _) _).drew
theorem lit_oneH {w : World} {x : Int} {t : TypeId} {o : Obj} (hx : I64 x) : Ints ((w.alloc o).alloc (.cells #[.int .i64 x] t)).drew (some ⟨w.heap.size + 1, 0, none⟩) [x] := by
  have h0 := lit_one (w := w.alloc o) (t := t) hx
  rw [show (w.alloc o).heap.size = w.heap.size + 1 by simp] at h0
  exact h0.grow ((Below.refl _ _).drew)
theorem bQ1 {B : Nat} {a w w' : World} {o : Obj} (h0 : Below B a w) (hB : B ≤ w.heap.size) (h : Below B (w.alloc o) w') : Below B a w' := (h0.alloc hB o).trans h
theorem bQ1D {B : Nat} {a w w' : World} {o : Obj} (h0 : Below B a w) (hB : B ≤ w.heap.size) (h : Below B (w.alloc o).drew w') : Below B a w' := ((h0.alloc hB o).drew).trans h
theorem bQ2D {B : Nat} {a w w' : World} {o p : Obj} (h0 : Below B a w) (hB : B ≤ w.heap.size) (h : Below B ((w.alloc o).alloc p).drew w') : Below B a w' := (((h0.alloc hB o).alloc (by simp; omega) p).drew).trans h
theorem anE_1 {ls : List Lft} {x : List Int} (h : lftsB ls = false) : anE ls x = 2 := by unfold anE; rw [h, need_new, need_set (k := 2) (by decide), need_set (k := 2) (by decide), need_set (k := 2) (by decide)]
theorem anE_2 {ls : List Lft} {x : List Int} (h : lftsB ls = true) (h2 : evenB x.length = false) : anE ls x = 1 := by unfold anE; rw [h, h2, need_true, need_new, need_set (k := 1) (by decide), need_set (k := 1) (by decide)]
theorem anE_3 {ls : List Lft} {x : List Int} (h : lftsB ls = true) (h2 : evenB x.length = true) (h3 : ¬ x.length ≤ 4096) : anE ls x = 4 := by unfold anE; rw [h, h2, need_true, need_true, decide_eq_false h3, need_new, need_set (by decide)]
theorem anE_4 {ls : List Lft} {x : List Int} (h : lftsB ls = true) (h2 : evenB x.length = true) (h3 : x.length ≤ 4096) (h4 : x.all wB = false) : anE ls x = 17 := by unfold anE; rw [h, h2, need_true, need_true, decide_eq_true h3, need_true, h4, need_new]
theorem anE_5 {ls : List Lft} {x : List Int} (h : lftsB ls = true) (h2 : evenB x.length = true) (h3 : x.length ≤ 4096) (h4 : x.all wB = true) : anE ls x = 0 := by unfold anE; rw [h, h2, need_true, need_true, decide_eq_true h3, need_true, h4, need_true]
theorem an_no {ls : List Lft} {x : List Int} {E : Int} (h : anE ls x = E) (h0 : E ≠ 0) : anLo ls x = [] ∧ anHi ls x = [] := by
  unfold anLo anHi
  rw [if_neg (by rw [h]; exact h0), if_neg (by rw [h]; exact h0)]
  exact ⟨rfl, rfl⟩
theorem Ret3.no {w w' : World} {E : Int} {A B : Option Addr} (h : A = none) (h2 : B = none) (hb : Below w.heap.size w w') : Ret3 w [] [] E (.returned (.tuple #[.slice A 0 0, .slice B 0 0, .int .i64 E])) w' := by
  subst h; subst h2; exact ⟨_, _, rfl, Own.nil, Own.nil, hb⟩
theorem take_ev {x : List Int} {h k : Nat} {y : Int} (hx : x.length = 2 * h) (hk : k < h) (hy : x[2 * k]? = some y) : (evF x).take (k + 1) = (evF x).take k ++ [y] := by
  rw [List.take_add_one, get_el (by rw [ev_length hx]; exact hk), el_ev, el_of hy]; rfl
theorem take_od {x : List Int} {h k : Nat} {y : Int} (hx : x.length = 2 * h) (hk : k < h) (hy : x[2 * k + 1]? = some y) : (odF x).take (k + 1) = (odF x).take k ++ [y] := by
  rw [List.take_add_one, get_el (by rw [od_length hx]; exact hk), el_od, el_of hy]; rfl
set_option maxRecDepth 100000 in
set_option maxHeartbeats 4000000 in
theorem r33_Analyse (A B : Option Addr) (ls : List Lft) (x : List Int) (c d : Nat) (w : World) (hL : Lifts w A ls) (hx : Ints w B x) (hl : ls.length ≤ 1000000) (hl2 : ∀ s ∈ ls, s.2.2.1.length ≤ 9223372036854775807) (hxl : x.length ≤ 1000000) :
    Calls Try.prog 18 #[.slice A ls.length c, .slice B x.length d] w (Ret3 w (anLo ls x) (anHi ls x) (anE ls x)) := by
  have HL2 := Lib.hid hl2
  clear hl2
  rcases hv : lftsB ls with _ | _
  · have HE := Lib.hid (anE_1 (x := x) hv)
    have HV := Lib.hid hv
    clear hv
    obtain ⟨q1, q2⟩ := an_no (ls := ls) (x := x) HE.out (by decide)
    have HQ1 := Lib.hid q1
    have HQ2 := Lib.hid q2
    clear q1 q2
    go_enter Try.func18, Try.ntmps18
    go_wp2_with ((go_at_call 24; refine (r33_Valid A ls c _ hL hl HL2.out).mono ?_; rintro e w1 ⟨rfl, rfl⟩; rw [HV.out]))
    go_ret3
    rw [HQ1.out, HQ2.out, HE.out]
    exact Ret3.no rfl rfl (Below.refl _ _)
  · have HV := Lib.hid hv
    rcases he : evenB x.length with _ | _
    · have HE := Lib.hid (anE_2 (x := x) hv he)
      have hm : (x.length : Int).tmod 2 = 1 := by
        rw [Int.tmod_eq_emod_of_nonneg (by omega)]
        unfold evenB at he
        simp at he; omega
      have hm2 : (x.length : Int) % 2 = 1 := by rw [← Int.tmod_eq_emod_of_nonneg (by omega)]; exact hm
      clear hv he
      obtain ⟨q1, q2⟩ := an_no (ls := ls) (x := x) HE.out (by decide)
      have HQ1 := Lib.hid q1
      have HQ2 := Lib.hid q2
      clear q1 q2
      go_enter Try.func18, Try.ntmps18
      go_wp2_with ((go_at_call 24; refine (r33_Valid A ls c _ hL hl HL2.out).mono ?_; rintro e w1 ⟨rfl, rfl⟩; rw [HV.out]))
      go_ret3
      rw [HQ1.out, HQ2.out, HE.out]
      exact Ret3.no rfl rfl (Below.refl _ _)
    · have hm : (x.length : Int) % 2 = 0 := by
        unfold evenB at he
        simpa using he
      have hm2 : (x.length : Int).tmod 2 = 0 := by rw [Int.tmod_eq_emod_of_nonneg (by omega)]; exact hm
      by_cases hle : x.length ≤ 4096
      · have d1 : decide ((4096 : Int) < (x.length : Int)) = false := by simp; omega
        rcases hw : x.all wB with _ | _
        · have HE := Lib.hid (anE_4 (x := x) hv he hle hw)
          have HW := Lib.hid hw
          clear hv he hw
          obtain ⟨q1, q2⟩ := an_no (ls := ls) (x := x) HE.out (by decide)
          have HQ1 := Lib.hid q1
          have HQ2 := Lib.hid q2
          clear q1 q2
          go_enter Try.func18, Try.ntmps18
          go_wp2_with (first | (go_at_call 24; refine (r33_Valid A ls c _ hL hl HL2.out).mono ?_; rintro e w1 ⟨rfl, rfl⟩; rw [HV.out]) | (go_at_call 68; refine (r33_wide B x d _ (by omega) hx).mono ?_; rintro e w1 ⟨rfl, rfl⟩; rw [HW.out]))
          go_ret3
          rw [HQ1.out, HQ2.out, HE.out]
          exact Ret3.no rfl rfl (Below.refl _ _)
        · have HE := Lib.hid (anE_5 (x := x) hv he hle hw)
          have HW := Lib.hid hw
          clear he hw hv
          obtain ⟨h, hh⟩ : ∃ h, x.length = 2 * h := ⟨x.length / 2, by omega⟩
          have HH := Lib.hid hh
          have HOK := Lib.hid (lfts_ok HV.out)
          have hh2 : h ≤ 2048 := by omega
          have W32X : Hid (W32 x) := wB_iff.1 HW.out
          clear hm2 hle hh
          go_enter Try.func18, Try.ntmps18
          go_wp2_with (first | (go_at_call 24; refine (r33_Valid A ls c _ hL hl HL2.out).mono ?_; rintro e w1 ⟨rfl, rfl⟩; rw [HV.out]) | (go_at_call 68; refine (r33_wide B x d _ (by omega) hx).mono ?_; rintro e w1 ⟨rfl, rfl⟩; rw [HW.out]))
          clear hm
          go_loopw [7, 8, 9] (fun va vb i wr => ∃ k I : Nat, I = 2 * k ∧ k ≤ h ∧ i = .int .i64 I ∧ Own2 w.heap.size wr va vb ((evF x).take k) ((odF x).take k) ∧ Below w.heap.size w wr) (fun _ _ i _ => 2 * h - (intOf i).toNat)
          case atStart => exact ⟨0, 0, rfl, Nat.zero_le _, rfl, ⟨Own.nil, Own.nil, .inl rfl⟩, Below.refl _ _⟩
          case round =>
            obtain ⟨k, I, hI, hk, rfl, h2r, hbw⟩ := hrel
            by_cases hlt : k < h
            · obtain ⟨ad, y, hB, hba, hy, cy, y1, y2⟩ := hx.at_ (k := I) (by have := HH.out; omega)
              obtain ⟨ad2, z, e2, hbz, hz, cz, z1, z2⟩ := hx.at_ (k := I + 1) (by have := HH.out; omega)
              rw [hB] at e2
              injection e2 with e2
              subst e2
              subst hB
              have iy : I64 y := ⟨y1, y2⟩
              have iz : I64 z := ⟨z1, z2⟩
              have hA1 := take_ev HH.out hlt (by rw [← hI]; exact hy)
              have hB1 := take_od HH.out hlt (by rw [← hI]; exact hz)
              have hLA : ((evF x).take k).length + [y].length ≤ 100000000 := by simp; omega
              have hLB : ((odF x).take k).length + [z].length ≤ 100000000 := by simp; omega
              obtain ⟨LA, hla⟩ : ∃ L, (evF x).take k = L := ⟨_, rfl⟩
              obtain ⟨LB, hlb⟩ : ∃ L, (odF x).take k = L := ⟨_, rfl⟩
              rw [hla] at hA1 hLA h2r
              rw [hlb] at hB1 hLB h2r
              have HLENA := Lib.hid hLA
              have HLENB := Lib.hid hLB
              have HTA : Hid (∀ L, LA ++ [y] = L → L = (evF x).take (k + 1)) := fun L e => by rw [hA1]; exact e.symm
              have HTB : Hid (∀ L, LB ++ [z] = L → L = (odF x).take (k + 1)) := fun L e => by rw [hB1]; exact e.symm
              have S0 : Hid (w.cell? (ad.add I) = some (.int .i64 y) ∧ w.cell? ⟨ad.block, ad.off + (I + 1), none⟩ = some (.int .i64 z)) := ⟨cy, by have := cz; unfold Addr.add at this; simpa using this⟩
              have hbA : (ad.add I).block < w.heap.size := by rw [block_add]; exact hba
              have hbB : (⟨ad.block, ad.off + (I + 1), none⟩ : Addr).block < w.heap.size := hba
              have HII := Lib.hid hI
              have HVA : Hid (∀ b, u7.ownBlock = some b → b < wr.heap.size) := fun b hb => (h2r.1.1.lt b hb).2
              have HVB : Hid (∀ b, u8.ownBlock = some b → b < wr.heap.size) := fun b hb => (h2r.2.1.1.lt b hb).2
              have hsz := hbw.size
              have x1 : (0 : Int) ≤ (I : Int) := by omega
              have x2 : (I : Int) < (x.length : Int) := by have := HH.out; omega
              have x3 : IntKind.i64.wrap ((I : Int) + 1) = (I : Int) + 1 := IntWalk.i64_in _ (by omega)
              have x4 : (I : Int) + 1 < (x.length : Int) := by have := HH.out; omega
              have x5 : (0 : Int) ≤ (I : Int) + 1 := by omega
              have x6 : ((I : Int) + 1).toNat = I + 1 := by omega
              have x7 : IntKind.i64.wrap ((I : Int) + 2) = (I : Int) + 2 := IntWalk.i64_in _ (by omega)
              obtain ⟨va, rfl⟩ : ∃ va : Value, va = u7 := ⟨_, rfl⟩
              obtain ⟨vb, rfl⟩ : ∃ vb : Value, vb = u8 := ⟨_, rfl⟩
              clear hy hz cy cz hA1 hB1 hLA hLB hla hlb hI hba hbz
              go_wp2_with fail
              go_region_held3 (fun w' => w'.cell? (ad.add I) = some (.int .i64 y) ∧ w'.cell? ⟨ad.block, ad.off + (I + 1), none⟩ = some (.int .i64 z))
                (exact twoS hbA hbB S0 (by go_grown))
                (first
                | ((with_reducible refine step_app2a _ ?_ (.tmp 34) (.tmp 39) rfl w.heap.size vb LA LB [y] ?_ ?_ ?_ ?_ ?_); (exact rfl); (first | exact h2r | exact h2r.grow (by go_grown)); (first | exact ⟨_, _, _, rfl, hlit, rfl⟩ | exact ⟨_, _, _, rfl, lit_one iy, rfl⟩ | exact ⟨_, _, _, rfl, lit_oneD iy, rfl⟩ | exact ⟨_, _, _, rfl, lit_oneG iy, rfl⟩ | exact ⟨_, _, _, rfl, lit_oneH iy, rfl⟩); (exact HLENA.out); (first | exact hsz | (simp; omega)); intro va w1 h2r hg1 hb1; (first | (have hlit := litT2 iz hg1 HVA.out) | (have hlit := litT3 iz hg1 HVA.out) | skip); (first | (have hbw := bQ2D hbw hsz hb1) | (have hbw := bQ1D hbw hsz hb1) | (have hbw := bQ1 hbw hsz hb1) | (have hbw := Below.trans hbw hb1)); have hsz := hbw.size; obtain ⟨LA, hqa⟩ : ∃ L, LA ++ [y] = L := ⟨_, rfl⟩; rw [hqa] at h2r)
                | ((with_reducible refine step_app2b _ ?_ (.tmp 41) (.tmp 47) rfl w.heap.size va LA LB [z] ?_ ?_ ?_ ?_ ?_); (exact rfl); (first | exact h2r | exact h2r.grow (by go_grown)); (first | exact ⟨_, _, _, rfl, hlit, rfl⟩ | exact ⟨_, _, _, rfl, lit_one iz, rfl⟩ | exact ⟨_, _, _, rfl, lit_oneD iz, rfl⟩ | exact ⟨_, _, _, rfl, lit_oneG iz, rfl⟩ | exact ⟨_, _, _, rfl, lit_oneH iz, rfl⟩); (exact HLENB.out); (first | exact hsz | (simp; omega)); intro vb w1 h2r hg1 hb1; (first | (have hlit := litT2 iy hg1 HVB.out) | (have hlit := litT3 iy hg1 HVB.out) | skip); (first | (have hbw := bQ2D hbw hsz hb1) | (have hbw := bQ1D hbw hsz hb1) | (have hbw := bQ1 hbw hsz hb1) | (have hbw := Below.trans hbw hb1)); have hsz := hbw.size; obtain ⟨LB, hqb⟩ : ∃ L, LB ++ [z] = L := ⟨_, rfl⟩; rw [hqb] at h2r))
              all_goals
                clear x1 x2 x3 x4 x5 x6
                go_wp2
                go_roundw
                case rel =>
                  have e1 := HTA.out _ hqa
                  have e2 := HTB.out _ hqb
                  exact ⟨k + 1, I + 2, by have := HII.out; omega, by omega, by go_num, by rw [← e1, ← e2]; exact h2r, hbw⟩
                case measure => simp [intOf]; have := HII.out; omega
            · obtain rfl : k = h := by omega
              have hA : Own w.heap.size wr u7 (evF x) := by have := h2r.1; rw [List.take_of_length_le (by rw [ev_length HH.out]; exact Nat.le_refl _)] at this; exact this
              have hB : Own w.heap.size wr u8 (odF x) := by have := h2r.2.1; rw [List.take_of_length_le (by rw [od_length HH.out]; exact Nat.le_refl _)] at this; exact this
              have hsz := hbw.size
              have HA := Lib.hid hA
              have HB := Lib.hid hB
              have HBW := Lib.hid hbw
              have HLr := Lib.hid (hL.grow hbw)
              have hIx : (I : Int) = (x.length : Int) := by have := HH.out; omega
              have hl12 := HOK.out.1
              clear h2r hA hB hbw hL hI hx
              go_wp2
              clear hIx
              obtain ⟨wo, rfl⟩ : ∃ wo : World, wo = wr := ⟨_, rfl⟩
              go_loopw [7, 8, 10] (fun va vb i wr => ∃ q : Nat, q ≤ ls.length ∧ i = .int .i64 q ∧ Own w.heap.size wr va (anaF (ls.take q) (evF x, odF x)).1 ∧ Own w.heap.size wr vb (anaF (ls.take q) (evF x, odF x)).2 ∧ Below wo.heap.size wo wr) (fun _ _ i _ => ls.length - (intOf i).toNat)
              case atStart => exact ⟨0, Nat.zero_le _, rfl, HA.out, HB.out, Below.refl _ _⟩
              case round =>
                obtain ⟨q, hq, rfl, hA, hB, hbr⟩ := hrel
                by_cases hlt2 : q < ls.length
                · obtain ⟨s, hs⟩ : ∃ s, ls[q]? = some s := ⟨_, List.getElem?_eq_getElem hlt2⟩
                  obtain ⟨ad, D, cc, rfl, hba, c0, c1, c2, c3, hi, i1, i2⟩ := (HLr.out.grow hbr) q s hs
                  have HSU := Lib.hid (ana_succ hs (evF x, odF x))
                  have HLO := Lib.hid (HOK.out.2 s (List.mem_of_getElem? hs))
                  have w32 := w32_fold 1 (ls.take q) (evF x, odF x) ⟨w32_ev W32X.out, w32_od W32X.out⟩
                  have hln := fold_length 1 (ls.take q) (evF x, odF x)
                  obtain ⟨la, hla⟩ : ∃ l, (anaF (ls.take q) (evF x, odF x)).1 = l := ⟨_, rfl⟩
                  obtain ⟨lb, hlb⟩ : ∃ l, (anaF (ls.take q) (evF x, odF x)).2 = l := ⟨_, rfl⟩
                  have lal : la.length = k := by rw [← hla]; exact hln.1.trans (ev_length HH.out)
                  have lbl : lb.length = k := by rw [← hlb]; exact hln.2.trans (od_length HH.out)
                  have hab : anaF (ls.take q) (evF x, odF x) = (la, lb) := by rw [← hla, ← hlb]
                  have W1 : Hid (W32 la) := by show W32 _; rw [← hla]; exact w32.1
                  have W2 : Hid (W32 lb) := by show W32 _; rw [← hlb]; exact w32.2
                  rw [hla] at hA
                  rw [hlb] at hB
                  rw [hab] at HSU
                  obtain ⟨C1, e1, rfl, _, iA⟩ := hA.form
                  obtain ⟨C2, e2, rfl, _, iB⟩ := hB.form
                  rw [lal, lbl]
                  obtain ⟨o, st, cf, sh⟩ := s
                  simp only at c0 c1 c2 c3 hi i1 i2
                  have HL1 := Lib.hid lal
                  have HL2' := Lib.hid lbl
                  have hbs := hbr.size
                  have HBR := Lib.hid hbr
                  clear hs w32 hln hla hlb lal lbl hab hA hB hbr
                  go_wp2_with (go_at_call 69; refine (r33_step o st sh 1 D C1 C2 cf la lb cc e1 e2 k _ HLO.out (.inl rfl) HL1.out HL2'.out (by omega) W1.out W2.out hi iA iB).mono ?_; rintro e w6 ⟨v1, v2, rfl, o1, o2, hb6⟩)
                  go_roundw
                  case rel => exact ⟨q + 1, by omega, by go_num, by rw [HSU.out]; exact o1.base (Nat.le_trans hsz hbs), by rw [HSU.out]; exact o2.base (Nat.le_trans hsz hbs), HBR.out.trans (hb6.mono hbs)⟩
                  case measure => simp [intOf]; omega
                · obtain rfl : q = ls.length := by omega
                  rw [List.take_length] at hA hB
                  have hlo : anLo ls x = (anaF ls (evF x, odF x)).1 := by unfold anLo; rw [if_pos HE.out]; rfl
                  have hhi : anHi ls x = (anaF ls (evF x, odF x)).2 := by unfold anHi; rw [if_pos HE.out]; rfl
                  have HLO := Lib.hid hlo
                  have HHI := Lib.hid hhi
                  clear hlo hhi
                  go_wp2
                  go_ret3
                  rw [HLO.out, HHI.out, HE.out]
                  exact ⟨_, _, rfl, hA, hB, HBW.out.trans (hbr.mono hsz)⟩
      · have HE := Lib.hid (anE_3 (x := x) hv he hle)
        have d1 : decide ((4096 : Int) < (x.length : Int)) = true := by simp; omega
        clear hv he
        obtain ⟨q1, q2⟩ := an_no (ls := ls) (x := x) HE.out (by decide)
        have HQ1 := Lib.hid q1
        have HQ2 := Lib.hid q2
        clear q1 q2
        go_enter Try.func18, Try.ntmps18
        go_wp2_with ((go_at_call 24; refine (r33_Valid A ls c _ hL hl HL2.out).mono ?_; rintro e w1 ⟨rfl, rfl⟩; rw [HV.out]))
        go_ret3
        rw [HQ1.out, HQ2.out, HE.out]
        exact Ret3.no rfl rfl (Below.refl _ _)
end Go.Proofs.Ytmdfgidejdiiiaa
