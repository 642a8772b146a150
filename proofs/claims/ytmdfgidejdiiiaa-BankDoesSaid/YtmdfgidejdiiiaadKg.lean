/- Package bank: Inexact. Printed by gen_kg.py. -/
import Derived.Test.YtmdfgidejdiiiaadIxtoKf
import Derived.Test.YtmdfgidejdiiiaadV4toV6
set_option linter.unusedVariables false
set_option linter.unusedSimpArgs false
namespace Go.Proofs.Ytmdfgidejdiiiaa
open Go.RowKit
def inx1 (p : Rat × Rat) (s : Lft) : Rat × Rat := if s.1 = true then (p.1, p.2 + growF s p.1) else (p.1 + growF s p.2, p.2)
def inxF (ls : List Lft) : Rat × Rat := ls.foldl inx1 (((0 : Int) : Rat), ((0 : Int) : Rat))
theorem inx_take {ls : List Lft} {k : Nat} {s : Lft} (h : ls[k]? = some s) : inxF (ls.take (k + 1)) = inx1 (inxF (ls.take k)) s := by
  unfold inxF
  rw [List.take_add_one, h, Option.toList_some, List.foldl_append]
  rfl
theorem size_Lf : (Try.prog.info? 64).map (·.size) = some 4 := by kernel_rfl
theorem row_Lf : ∃ d, Try.prog.underlying 64 = some d ∧ d.isRow = true := ⟨_, Try.underlying64, rfl⟩
def RetQQ (w : World) (z1 z2 : Rat) (K : Nat) (E : Int) (e : Ending) (w' : World) : Prop := ∃ v1 v2, e = .returned (.tuple #[v1, v2, .int .i64 E]) ∧ RatA w' v1 z1 K ∧ RatA w' v2 z2 K ∧ Below w.heap.size w w'
theorem resCCC {fn : Func} {t s r : Tmp} {T S E : TypeId} (h : fn.results = #[.cell t T, .cell s S, .cell r E]) (tmps : Array Value) (P : Program) (w : World) {g g' g'' : Nat} {v v' v'' : Value} (hp : tmps.getD t undef = .pointer (some ⟨g, 0, none⟩)) (hp' : tmps.getD s undef = .pointer (some ⟨g', 0, none⟩)) (hp'' : tmps.getD r undef = .pointer (some ⟨g'', 0, none⟩))
    (hv : (loadVar T ⟨g, 0, none⟩).run P w = .ok v w) (hv' : (loadVar S ⟨g', 0, none⟩).run P w = .ok v' w) (hv'' : (loadVar E ⟨g'', 0, none⟩).run P w = .ok v'' w) : (results fn tmps).run P w = .ok (.tuple #[v, v', v'']) w := by
  have e1 : tmps[t]?.getD undef = .pointer (some ⟨g, 0, none⟩) := by rw [← Array.getD_eq_getD_getElem?]; exact hp
  have e2 : tmps[s]?.getD undef = .pointer (some ⟨g', 0, none⟩) := by rw [← Array.getD_eq_getD_getElem?]; exact hp'
  have e3 : tmps[r]?.getD undef = .pointer (some ⟨g'', 0, none⟩) := by rw [← Array.getD_eq_getD_getElem?]; exact hp''
  simp [results, h, e1, e2, e3, hv, hv', hv'', asAddr]
theorem RatA.zero {w : World} {K : Nat} : RatA w (.agg #[.bool false, .slice none 0 0, .slice none 0 0]) 0 K :=
  ⟨false, none, 0, 0, [], none, 0, 0, [], rfl, ⟨DigA.nil, rfl, Nat.le_refl _, Nat.zero_le _⟩, ⟨DigA.nil, rfl, Nat.le_refl _, Nat.zero_le _⟩, (frac_zero rfl).symm⟩
def InxC (b : Nat) (w : World) (cs ds : List Value) (k : Int) (D : World → Prop) (w' : World) : Prop := Below b w w' ∧ Box w' b cs ∧ Box w' (b + 1) ds ∧ CheckAt w' (b + 1 + 1) 0 ∧ CheckAt w' (b + 1 + 1 + 1) k ∧ D w'
def Stay (b : Nat) (D : World → Prop) : Prop := (∀ g w1 w2, g < b + 1 + 1 + 1 + 1 → D w1 → w1.grownBy w2 (some g) → D w2) ∧ ∀ w1 w2, D w1 → Below w1.heap.size w1 w2 → D w2
theorem InxC.box1 {b : Nat} {w w1 w2 : World} {cs cs' ds : List Value} {k : Int} {D : World → Prop} (h : InxC b w cs ds k D w1) (hD : Stay b D) (h1 : Box w2 b cs') (hg : w1.grownBy w2 (some b)) : InxC b w cs' ds k D w2 :=
  ⟨h.1.grown hg (Nat.le_of_lt (by have := h.2.1.1; omega)) (fun k e => by injection e with e; omega), h1, h.2.2.1.grown hg (fun e => by injection e with e; omega), h.2.2.2.1.kept hg (by omega), h.2.2.2.2.1.kept hg (by omega), hD.1 _ _ _ (by omega) h.2.2.2.2.2 hg⟩
theorem InxC.box2 {b : Nat} {w w1 w2 : World} {cs ds ds' : List Value} {k : Int} {D : World → Prop} (h : InxC b w cs ds k D w1) (hD : Stay b D) (h1 : Box w2 (b + 1) ds') (hg : w1.grownBy w2 (some (b + 1))) : InxC b w cs ds' k D w2 :=
  ⟨h.1.grown hg (Nat.le_of_lt (by have := h.2.1.1; omega)) (fun k e => by injection e with e; omega), h.2.1.grown hg (fun e => by injection e with e; omega), h1, h.2.2.2.1.kept hg (by omega), h.2.2.2.2.1.kept hg (by omega), hD.1 _ _ _ (by omega) h.2.2.2.2.2 hg⟩
theorem InxC.err {b : Nat} {w w1 : World} {cs ds : List Value} {k : Int} {D : World → Prop} (h : InxC b w cs ds k D w1) (hD : Stay b D) : InxC b w cs ds k D (w1.setCell ⟨b + 1 + 1, 0, none⟩ (.int .i64 0)) := by
  have hg : w1.grownBy (w1.setCell ⟨b + 1 + 1, 0, none⟩ (.int .i64 0)) (some (b + 1 + 1)) := grown_set (grown_refl _ _)
  exact ⟨h.1.grown hg (Nat.le_of_lt (by have := h.2.1.1; omega)) (fun k e => by injection e with e; omega), h.2.1.grown hg (fun e => by injection e with e; omega), h.2.2.1.grown hg (fun e => by injection e with e; omega), h.2.2.2.1.set 0, h.2.2.2.2.1.kept hg (by omega), hD.1 _ _ _ (by omega) h.2.2.2.2.2 hg⟩
theorem InxC.drew {b : Nat} {w w1 : World} {cs ds : List Value} {k : Int} {D : World → Prop} (h : InxC b w cs ds k D w1) (hD : Stay b D) : InxC b w cs ds k D w1.drew := ⟨h.1.drew, h.2.1.drew, h.2.2.1.drew, h.2.2.2.1.drew, h.2.2.2.2.1.drew, hD.2 _ _ h.2.2.2.2.2 (Below.refl _ _).drew⟩
theorem stayT {b : Nat} : Stay b (fun _ => True) := ⟨fun _ _ _ _ h _ => h, fun _ _ h _ => h⟩
theorem InxC.keep {b : Nat} {w w1 w2 : World} {cs ds : List Value} {k : Int} {D : World → Prop} (h : InxC b w cs ds k D w1) (hD : Stay b D) (hb : Below w1.heap.size w1 w2) : InxC b w cs ds k D w2 := ⟨h.1.trans (hb.mono (by have := h.2.1.1; omega)), h.2.1.keep hb, h.2.2.1.keep hb, h.2.2.2.1.keep hb, h.2.2.2.2.1.keep hb, hD.2 _ _ h.2.2.2.2.2 hb⟩
theorem InxC.more {b : Nat} {w w1 : World} {cs ds : List Value} {k : Int} {D D' : World → Prop} (h : InxC b w cs ds k D w1) (hd : D' w1) : InxC b w cs ds k D' w1 := ⟨h.1, h.2.1, h.2.2.1, h.2.2.2.1, h.2.2.2.2.1, hd⟩
def InxS (b : Nat) (w : World) (p : Rat × Rat) (K : Nat) (wr : World) : Prop :=
  ∃ g1 A1 n1 c1 B1 m1 d1 g2 A2 n2 c2 B2 m2 d2, InxC b w [.bool g1, .slice A1 n1 c1, .slice B1 m1 d1] [.bool g2, .slice A2 n2 c2, .slice B2 m2 d2] 0 (fun w' => RatQ (b + 1 + 1 + 1 + 1) w' (.agg #[.bool g1, .slice A1 n1 c1, .slice B1 m1 d1]) p.1 K ∧ RatQ (b + 1 + 1 + 1 + 1) w' (.agg #[.bool g2, .slice A2 n2 c2, .slice B2 m2 d2]) p.2 K) wr
theorem stayQ {b : Nat} {v u : Value} {x y : Rat} {K M : Nat} : Stay b (fun w' => RatQ (b + 1 + 1 + 1 + 1) w' v x K ∧ RatQ (b + 1 + 1 + 1 + 1) w' u y M) := ⟨fun g w1 w2 hg h h1 => ⟨h.1.away h1 hg, h.2.away h1 hg⟩, fun w1 w2 h hb => ⟨h.1.grow hb, h.2.grow hb⟩⟩
set_option maxRecDepth 100000 in
set_option maxHeartbeats 4000000 in
theorem bk_Inexact_no (A : Option Addr) (ls : List Lft) (c n : Nat) (w : World) (hL : Lifts w A ls) (hn : ls.length = n) (hl : n ≤ 1000000) (hl2 : ∀ s ∈ ls, s.2.2.1.length ≤ 9223372036854775807) (hok : lftsB ls = false) :
    Calls Try.prog 21 #[.slice A n c] w (RetQQ w 0 0 1 2) := by
  subst hn
  have HL0 := Lib.hid hL
  have CV : Hid (∀ w1, Below w.heap.size w w1 → Calls Try.prog 23 #[.slice A ls.length c] w1 fun e w' => e = .returned (.bool false) ∧ Below w1.heap.size w1 w') := Lib.hid fun w1 hb => hok ▸ bk_Valid A ls c w1 (hL.grow hb) hl hl2
  clear hok hL hl2
  obtain ⟨dsL, hL1, hL2⟩ := row_Lf
  have HLL := Lib.hid (And.intro hL1 hL2)
  clear hL1 hL2
  obtain ⟨dsR, hR1, hR2⟩ := row_Rat
  have HRR := Lib.hid (And.intro hR1 hR2)
  clear hR1 hR2
  go_enter_defers Try.func21, Try.ntmps21
  go_upto_region 2 with fail
  have hB0 : Below w.heap.size w ((((w.alloc (.cells #[.bool false, .slice none 0 0, .slice none 0 0] 28)).alloc (.cells #[.bool false, .slice none 0 0, .slice none 0 0] 28)).alloc (.cells #[.int .i64 0] 40)).alloc (.cells #[.int .i64 0] 89)) := (((((Below.refl _ _).alloc (Nat.le_refl _) _).alloc (by simp; try omega) _).alloc (by simp; try omega) _).alloc (by simp; try omega) _)
  have bx0 : Box ((((w.alloc (.cells #[.bool false, .slice none 0 0, .slice none 0 0] 28)).alloc (.cells #[.bool false, .slice none 0 0, .slice none 0 0] 28)).alloc (.cells #[.int .i64 0] 40)).alloc (.cells #[.int .i64 0] 89)) (w.heap.size) [.bool false, .slice none 0 0, .slice none 0 0] := ((((Box.new (by simp)).alloc _).alloc _).alloc _)
  have bx1 : Box ((((w.alloc (.cells #[.bool false, .slice none 0 0, .slice none 0 0] 28)).alloc (.cells #[.bool false, .slice none 0 0, .slice none 0 0] 28)).alloc (.cells #[.int .i64 0] 40)).alloc (.cells #[.int .i64 0] 89)) (w.heap.size + 1) [.bool false, .slice none 0 0, .slice none 0 0] := (((Box.new (by simp)).alloc _).alloc _)
  have bx2 : Box ((((w.alloc (.cells #[.bool false, .slice none 0 0, .slice none 0 0] 28)).alloc (.cells #[.bool false, .slice none 0 0, .slice none 0 0] 28)).alloc (.cells #[.int .i64 0] 40)).alloc (.cells #[.int .i64 0] 89)) (w.heap.size + 1 + 1) [.int .i64 0] := ((Box.new (by simp)).alloc _)
  have bx3 : Box ((((w.alloc (.cells #[.bool false, .slice none 0 0, .slice none 0 0] 28)).alloc (.cells #[.bool false, .slice none 0 0, .slice none 0 0] 28)).alloc (.cells #[.int .i64 0] 40)).alloc (.cells #[.int .i64 0] 89)) (w.heap.size + 1 + 1 + 1) [.int .i64 0] := (Box.new (by simp))
  generalize (((w.alloc (.cells #[.bool false, .slice none 0 0, .slice none 0 0] 28)).alloc (.cells #[.bool false, .slice none 0 0, .slice none 0 0] 28)).alloc (.cells #[.int .i64 0] 40)).alloc (.cells #[.int .i64 0] 89) = wA at hB0 bx0 bx1 bx2 bx3 ⊢
  have HA := Lib.hid (And.intro hB0 (And.intro bx0 (And.intro bx1 (And.intro bx2 bx3))))
  clear hB0 bx0 bx1 bx2 bx3
  have k0 : CheckAt wA (w.heap.size + 1 + 1) 0 := ⟨HA.out.2.2.2.1.2.1 0, HA.out.2.2.2.1.2.2 0⟩
  have k1 : CheckAt wA (w.heap.size + 1 + 1 + 1) 0 := ⟨HA.out.2.2.2.2.2.1 0, HA.out.2.2.2.2.2.2 0⟩
  have K0 := Lib.hid k0
  have K1 := Lib.hid k1
  clear k0 k1
  go_wp2_with fail
  refine (CV.out _ HA.out.1).mono ?_
  rintro e w1 ⟨rfl, hb1⟩
  have HB1 := Lib.hid hb1
  clear hb1 CV
  go_wp2_with fail
  refine (bk_need (w.heap.size + 1 + 1 + 1) 0 2 false _ (K1.out.keep HB1.out) (by decide)).mono ?_
  rintro e w2 ⟨he, hk1, hg⟩
  have he : e = .returned (.bool false) := he
  subst he
  have hs1 := HB1.out.size
  have hs2 := HA.out.2.2.2.2.1
  have H2 : Hid (Below w.heap.size w w2 ∧ Box w2 w.heap.size [.bool false, .slice none 0 0, .slice none 0 0] ∧ Box w2 (w.heap.size + 1) [.bool false, .slice none 0 0, .slice none 0 0] ∧ CheckAt w2 (w.heap.size + 1 + 1) 0) := Lib.hid ⟨grown_to (below_then HA.out.1 HB1.out) hg (by omega), (HA.out.2.1.keep HB1.out).grown hg (fun e => by injection e with e; omega), (HA.out.2.2.1.keep HB1.out).grown hg (fun e => by injection e with e; omega), (K0.out.keep HB1.out).kept hg (by omega)⟩
  have HK2 : Hid (CheckAt w2 (w.heap.size + 1 + 1 + 1) 2) := Lib.hid hk1
  clear hk1 hg hs1 hs2 K0 K1 HA HB1
  have HC : Hid (InxC w.heap.size w [.bool false, .slice none 0 0, .slice none 0 0] [.bool false, .slice none 0 0, .slice none 0 0] 2 (fun _ => True) w2) := Lib.hid ⟨H2.out.1, H2.out.2.1, H2.out.2.2.1, H2.out.2.2.2, HK2.out, trivial⟩
  clear HK2
  go_upto_region 4 with fail
  refine wp_region_grow 6 (InxC w.heap.size w [.bool false, .slice none 0 0, .slice none 0 0] [.bool false, .slice none 0 0, .slice none 0 0] 2 (fun _ => True)) (fun a b => InxC w.heap.size w [.bool false, .slice none 0 0, .slice none 0 0] [.bool false, .slice none 0 0, .slice none 0 0] 2 (fun _ => True) b) (fun i v w9 => match i with | 0 => v = .agg #[.bool false, .slice none 0 0, .slice none 0 0] | 1 => v = .agg #[.bool false, .slice none 0 0, .slice none 0 0] | 2 => v = .int .i64 0 | _ => True) (by kernel_rfl) (by kernel_rfl) (HC.out.drew stayT) (fun a b h1 h2 => ⟨h2, fun i hi v h => h⟩) ?_ ?_
  · refine ⟨?_, ?_, ?_, ?_, ?_, ?_, trivial⟩
    all_goals
      intro vs w9 hp hF
      have HP := Lib.hid hp
      have e0 := hp.2.2.2.1.1
      have f0 := hp.2.2.2.1.2
      clear hp
      simp [depsB, Region.binds] at hF
      simp [stL, depsB, Region.binds, Act.put, hF]
    · go_wp2_with fail
      exact HP.out
    · go_wp2_with fail
      exact HP.out
    · go_wp2_with fail
      exact HP.out
    · refine wp_st rfl 28 _ _ rfl (w.heap.size) 0 [_, _, _] rfl rfl size_Rat rfl HP.out.2.1 (Nat.le_refl _) rfl ?_
      intro W9 c9 g9
      go_wp2_with fail
      exact HP.out.box1 stayT c9 g9
    · refine wp_st rfl 28 _ _ rfl (w.heap.size + 1) 0 [_, _, _] rfl rfl size_Rat rfl HP.out.2.2.1 (Nat.le_refl _) rfl ?_
      intro W9 c9 g9
      go_wp2_with fail
      exact HP.out.box2 stayT c9 g9
    · go_wp2_with fail
      exact HP.out.err stayT
  intro vs w9 hp hF
  clear hF
  have HP := Lib.hid hp
  clear hp
  show wpList Try.prog _ _ [] _ _
  simp [stL, Act.put]
  go_wp2_with fail
  first | go_end0 | go_wp2
  refine leaves_cons (f := 64) (args := #[.pointer (some ⟨w.heap.size + 1 + 1 + 1, 0, none⟩), .pointer (some ⟨w.heap.size + 1 + 1, 0, none⟩)]) (by simp) (by simp [go_sem]) ?_
  refine (bk_report (w.heap.size + 1 + 1 + 1) (w.heap.size + 1 + 1) 2 0 .returning _ HP.out.2.2.2.2.1.1 HP.out.2.2.2.1.1 HP.out.2.2.2.1.2).mono ?_
  rintro e u' w'' ⟨rfl, rfl, rfl⟩
  have hg : w9.grownBy (w9.setCell ⟨w.heap.size + 1 + 1, 0, none⟩ (.int .i64 2)) (some (w.heap.size + 1 + 1)) := grown_set (grown_refl _ _)
  have q1 : Box (w9.setCell ⟨w.heap.size + 1 + 1, 0, none⟩ (.int .i64 2)) w.heap.size [.bool false, .slice none 0 0, .slice none 0 0] := HP.out.2.1.grown hg (fun e => by injection e with e; omega)
  have q2 : Box (w9.setCell ⟨w.heap.size + 1 + 1, 0, none⟩ (.int .i64 2)) (w.heap.size + 1) [.bool false, .slice none 0 0, .slice none 0 0] := HP.out.2.2.1.grown hg (fun e => by injection e with e; omega)
  have q3 := (HP.out.2.2.2.1.set 2).1
  have hW : Below w.heap.size w (w9.setCell ⟨w.heap.size + 1 + 1, 0, none⟩ (.int .i64 2)) := put_facts HP.out.1 (by omega) hg
  refine ⟨.tuple #[.agg #[.bool false, .slice none 0 0, .slice none 0 0], .agg #[.bool false, .slice none 0 0, .slice none 0 0], .int .i64 2], resCCC rfl _ _ _ rfl rfl rfl (res_box 28 q1 dsR HRR.out.1 HRR.out.2 size_Rat) (res_box 28 q2 dsR HRR.out.1 HRR.out.2 size_Rat) (by simp [go_sem, q3]), ?_⟩
  exact ⟨_, _, rfl, RatA.zero, RatA.zero, hW⟩
set_option maxRecDepth 100000 in
set_option maxHeartbeats 4000000 in
theorem bk_Inexact_ok (A : Option Addr) (ls : List Lft) (c n : Nat) (w : World) (hL : Lifts w A ls) (hn : ls.length = n) (hl : n ≤ 1000000) (hl2 : ∀ s ∈ ls, s.2.2.1.length ≤ 9223372036854775807) (hok : lftsB ls = true) :
    Calls Try.prog 21 #[.slice A n c] w (RetQQ w (inxF ls).1 (inxF ls).2 40000 0) := by
  subst hn
  have HL0 := Lib.hid hL
  have CV : Hid (∀ w1, Below w.heap.size w w1 → Calls Try.prog 23 #[.slice A ls.length c] w1 fun e w' => e = .returned (.bool true) ∧ Below w1.heap.size w1 w') := Lib.hid fun w1 hb => hok ▸ bk_Valid A ls c w1 (hL.grow hb) hl hl2
  have HLF := Lib.hid (lfts_ok hok)
  clear hok hL hl2
  obtain ⟨dsL, hL1, hL2⟩ := row_Lf
  have HLL := Lib.hid (And.intro hL1 hL2)
  clear hL1 hL2
  obtain ⟨dsR, hR1, hR2⟩ := row_Rat
  have HRR := Lib.hid (And.intro hR1 hR2)
  clear hR1 hR2
  go_enter_defers Try.func21, Try.ntmps21
  go_upto_region 2 with fail
  have hB0 : Below w.heap.size w ((((w.alloc (.cells #[.bool false, .slice none 0 0, .slice none 0 0] 28)).alloc (.cells #[.bool false, .slice none 0 0, .slice none 0 0] 28)).alloc (.cells #[.int .i64 0] 40)).alloc (.cells #[.int .i64 0] 89)) := (((((Below.refl _ _).alloc (Nat.le_refl _) _).alloc (by simp; try omega) _).alloc (by simp; try omega) _).alloc (by simp; try omega) _)
  have bx0 : Box ((((w.alloc (.cells #[.bool false, .slice none 0 0, .slice none 0 0] 28)).alloc (.cells #[.bool false, .slice none 0 0, .slice none 0 0] 28)).alloc (.cells #[.int .i64 0] 40)).alloc (.cells #[.int .i64 0] 89)) (w.heap.size) [.bool false, .slice none 0 0, .slice none 0 0] := ((((Box.new (by simp)).alloc _).alloc _).alloc _)
  have bx1 : Box ((((w.alloc (.cells #[.bool false, .slice none 0 0, .slice none 0 0] 28)).alloc (.cells #[.bool false, .slice none 0 0, .slice none 0 0] 28)).alloc (.cells #[.int .i64 0] 40)).alloc (.cells #[.int .i64 0] 89)) (w.heap.size + 1) [.bool false, .slice none 0 0, .slice none 0 0] := (((Box.new (by simp)).alloc _).alloc _)
  have bx2 : Box ((((w.alloc (.cells #[.bool false, .slice none 0 0, .slice none 0 0] 28)).alloc (.cells #[.bool false, .slice none 0 0, .slice none 0 0] 28)).alloc (.cells #[.int .i64 0] 40)).alloc (.cells #[.int .i64 0] 89)) (w.heap.size + 1 + 1) [.int .i64 0] := ((Box.new (by simp)).alloc _)
  have bx3 : Box ((((w.alloc (.cells #[.bool false, .slice none 0 0, .slice none 0 0] 28)).alloc (.cells #[.bool false, .slice none 0 0, .slice none 0 0] 28)).alloc (.cells #[.int .i64 0] 40)).alloc (.cells #[.int .i64 0] 89)) (w.heap.size + 1 + 1 + 1) [.int .i64 0] := (Box.new (by simp))
  generalize (((w.alloc (.cells #[.bool false, .slice none 0 0, .slice none 0 0] 28)).alloc (.cells #[.bool false, .slice none 0 0, .slice none 0 0] 28)).alloc (.cells #[.int .i64 0] 40)).alloc (.cells #[.int .i64 0] 89) = wA at hB0 bx0 bx1 bx2 bx3 ⊢
  have HA := Lib.hid (And.intro hB0 (And.intro bx0 (And.intro bx1 (And.intro bx2 bx3))))
  clear hB0 bx0 bx1 bx2 bx3
  have k0 : CheckAt wA (w.heap.size + 1 + 1) 0 := ⟨HA.out.2.2.2.1.2.1 0, HA.out.2.2.2.1.2.2 0⟩
  have k1 : CheckAt wA (w.heap.size + 1 + 1 + 1) 0 := ⟨HA.out.2.2.2.2.2.1 0, HA.out.2.2.2.2.2.2 0⟩
  have K0 := Lib.hid k0
  have K1 := Lib.hid k1
  clear k0 k1
  go_wp2_with fail
  refine (CV.out _ HA.out.1).mono ?_
  rintro e w1 ⟨rfl, hb1⟩
  have HB1 := Lib.hid hb1
  clear hb1 CV
  go_wp2_with fail
  refine (bk_need (w.heap.size + 1 + 1 + 1) 0 2 true _ (K1.out.keep HB1.out) (by decide)).mono ?_
  rintro e w2 ⟨he, hk1, hg⟩
  have he : e = .returned (.bool true) := he
  subst he
  have hs1 := HB1.out.size
  have hs2 := HA.out.2.2.2.2.1
  have H2 : Hid (Below w.heap.size w w2 ∧ Box w2 w.heap.size [.bool false, .slice none 0 0, .slice none 0 0] ∧ Box w2 (w.heap.size + 1) [.bool false, .slice none 0 0, .slice none 0 0] ∧ CheckAt w2 (w.heap.size + 1 + 1) 0) := Lib.hid ⟨grown_to (below_then HA.out.1 HB1.out) hg (by omega), (HA.out.2.1.keep HB1.out).grown hg (fun e => by injection e with e; omega), (HA.out.2.2.1.keep HB1.out).grown hg (fun e => by injection e with e; omega), (K0.out.keep HB1.out).kept hg (by omega)⟩
  have HK2 : Hid (CheckAt w2 (w.heap.size + 1 + 1 + 1) 0) := Lib.hid hk1
  clear hk1 hg hs1 hs2 K0 K1 HA HB1
  have CO : Hid (∀ w1, Calls Try.prog 43 #[.int .i64 0] w1 (RetQ w1 ((0 : Int) : Rat) 2)) := Lib.hid fun w1 => rt_OfQ 0 w1 (by unfold I64; omega)
  have HS2 : Hid (w.heap.size + 1 + 1 + 1 + 1 ≤ w2.heap.size) := Lib.hid (cell_lt HK2.out.1)
  go_wp2_with fail
  refine (CO.out _).mono ?_
  rintro e w3 ⟨v3, rfl, hq3, hb3⟩
  obtain ⟨g1, A1, n1, c1, B1, m1, d1, e3⟩ := hq3.form
  subst e3
  go_wp2_with fail
  refine (CO.out _).mono ?_
  rintro e w4 ⟨v4, rfl, hq4, hb4⟩
  obtain ⟨g2, A2, n2, c2, B2, m2, d2, e4⟩ := hq4.form
  subst e4
  have HC4 : Hid (InxC w.heap.size w [.bool false, .slice none 0 0, .slice none 0 0] [.bool false, .slice none 0 0, .slice none 0 0] 0 (fun w' => RatQ (w.heap.size + 1 + 1 + 1 + 1) w' (.agg #[.bool g1, .slice A1 n1 c1, .slice B1 m1 d1]) ((0 : Int) : Rat) 2 ∧ RatQ (w.heap.size + 1 + 1 + 1 + 1) w' (.agg #[.bool g2, .slice A2 n2 c2, .slice B2 m2 d2]) ((0 : Int) : Rat) 2) w4) := Lib.hid ((InxC.keep (D := fun _ => True) ⟨H2.out.1, H2.out.2.1, H2.out.2.2.1, H2.out.2.2.2, HK2.out, trivial⟩ stayT (below_then hb3 hb4)).more ⟨(hq3.grow hb4).base HS2.out, hq4.base (Nat.le_trans HS2.out hb3.size)⟩)
  clear hq3 hq4 hb3 hb4 H2 HK2 HS2 CO
  go_upto_region 6 with (first
    | ((with_reducible show wpList _ _ _ (Oper.mk none (.store 28 (.tmp 2) _) _ _ _ _ :: _) _ _); refine wp_st rfl 28 _ _ rfl (w.heap.size) 0 [_, _, _] rfl rfl size_Rat rfl (HC4.out.2.1) (Nat.le_refl _) rfl ?_; intro W5 c5 g5)
    | ((with_reducible show wpList _ _ _ (Oper.mk none (.store 28 (.tmp 3) _) _ _ _ _ :: _) _ _); refine wp_st rfl 28 _ _ rfl (w.heap.size + 1) 0 [_, _, _] rfl rfl size_Rat rfl ((HC4.out.box1 stayQ c5 g5).2.2.1) (Nat.le_refl _) rfl ?_; intro W6 c6 g6))
  have HC6 : Hid (InxS w.heap.size w (inxF (ls.take 0)) 2 W6) := Lib.hid ⟨g1, A1, n1, c1, B1, m1, d1, g2, A2, n2, c2, B2, m2, d2, (HC4.out.box1 stayQ c5 g5).box2 stayQ c6 g6⟩
  clear c5 g5 c6 g6 HC4
  go_wp2_with fail
  go_loopw [19] (fun i wr => ∃ (k : Nat) (K : Nat), k ≤ ls.length ∧ i = .int .i64 k ∧ Hid (K + 6 ≤ 8 * 2 ^ k ∧ 2 ≤ K) ∧ Hid (InxS w.heap.size w (inxF (ls.take k)) K wr)) (fun i _ => ls.length - (intOf i).toNat)
  case atStart => exact ⟨0, 2, Nat.zero_le _, rfl, Lib.hid (by decide), HC6⟩
  case round =>
    obtain ⟨k, K, hk, rfl, HKK, HS⟩ := hrel
    obtain ⟨p, hp⟩ : ∃ p, inxF (ls.take k) = p := ⟨_, rfl⟩
    rw [hp] at HS
    have HPP := Lib.hid hp
    clear hp
    by_cases hlt : k < ls.length
    · obtain ⟨s, hs⟩ : ∃ s, ls[k]? = some s := ⟨_, List.getElem?_eq_getElem hlt⟩
      have hok := HLF.out.2 s (List.mem_of_getElem? hs)
      have HIN : Hid (inxF (ls.take (k + 1)) = inx1 p s) := Lib.hid (by rw [inx_take hs, HPP.out])
      obtain ⟨g1, A1, n1, c1, B1, m1, d1, g2, A2, n2, c2, B2, m2, d2, hC⟩ := HS.out
      obtain ⟨ad, C, cc, rfl, hba, y0, y1, y2, y3, hi, i1, i2⟩ := (HL0.out.grow hC.1) k s hs
      obtain ⟨o, st, cf, sh⟩ := s
      dsimp only at y0 y1 y2 y3 hi i1 i2
      obtain ⟨n, rfl⟩ : ∃ n : Nat, sh = n := ⟨sh.toNat, by have := hok.2.1; simp at this; omega⟩
      obtain ⟨m, hm⟩ : ∃ m, cf.length = m := ⟨_, rfl⟩
      rw [hm] at y2
      have HC := Lib.hid hC
      have HI := Lib.hid hi
      have HOK := Lib.hid (And.intro hok hm)
      have hKb : K ≤ 32768 := by
        have h1 := HKK.out.1
        have h2 : 2 ^ k ≤ 2 ^ 12 := Nat.pow_le_pow_right (by decide) (by have := HLF.out.1; omega)
        omega
      have HKB := Lib.hid hKb
      clear hs hC hi hok hm hKb i1 i2 HS
      cases o with
      | true =>
        go_upto_region 10 with fail
        have hbA : Below wr.heap.size wr (wr.alloc (.cells #[.bool true, .int .i64 st, .slice C m cc, .int .i64 (n : Int)] 64)) := (Below.refl _ _).alloc (Nat.le_refl _) _
        have bxL : Box (wr.alloc (.cells #[.bool true, .int .i64 st, .slice C m cc, .int .i64 (n : Int)] 64)) wr.heap.size [.bool true, .int .i64 st, .slice C m cc, .int .i64 (n : Int)] := Box.new (by simp)
        generalize wr.alloc (.cells #[.bool true, .int .i64 st, .slice C m cc, .int .i64 (n : Int)] 64) = W1 at hbA bxL ⊢
        have HBL := Lib.hid bxL
        have HC1 := Lib.hid (HC.out.keep stayQ hbA)
        have HI1 := Lib.hid (HI.out.grow hbA)
        obtain ⟨gr, hgr⟩ : ∃ q, growF (true, st, cf, (n : Int)) p.1 = q := ⟨_, rfl⟩
        obtain ⟨y, hy⟩ : ∃ q, p.2 + gr = q := ⟨_, rfl⟩
        have CG : Hid (∀ w1, Below W1.heap.size W1 w1 → Calls Try.prog 71 #[.agg #[.bool true, .int .i64 st, .slice C m cc, .int .i64 (n : Int)], .agg #[.bool g1, .slice A1 n1 c1, .slice B1 m1 d1]] w1 (RetQ w1 gr (K + 5))) := Lib.hid fun w1 hb => by
          have hk := HKB.out
          have h1 := HKK.out.2
          have h := bk_growth true st C cc m n K cf _ p.1 w1 HOK.out.1 HOK.out.2 (HI1.out.grow hb) (HC1.out.2.2.2.2.2.1.grow hb).arg (by omega) (by omega)
          rw [hgr] at h
          exact h
        have CA : Hid (∀ u w1 b1, Below W1.heap.size W1 w1 → RatQ b1 w1 u gr (K + 5) → Calls Try.prog 45 #[.agg #[.bool g2, .slice A2 n2 c2, .slice B2 m2 d2], u] w1 (RetQ w1 y (K + (K + 5) + 1))) := Lib.hid fun u w1 b1 hb hu => by
          have hk := HKB.out
          have h1 := HKK.out.2
          have h := rt_Add _ u p.2 gr K (K + 5) w1 (HC1.out.2.2.2.2.2.2.grow hb).arg hu.arg (by omega) (by omega) (by omega) (by omega)
          rw [hy] at h
          exact h
        have HY : Hid (inxF (ls.take (k + 1)) = (p.1, y)) := Lib.hid (by rw [HIN.out]; unfold inx1; rw [if_pos rfl]; show (p.1, p.2 + growF (true, st, cf, (n : Int)) p.1) = _; rw [hgr, hy])
        obtain ⟨G, hG⟩ : ∃ G, wr.heap.size = G := ⟨_, rfl⟩
        rw [hG] at HBL ⊢
        clear hgr hy hbA bxL hG y0 y1 y2 y3
        refine wp_region_grow7 (fun i => Nat.blt i 5) (fun _ => false) (fun w9 => Below W1.heap.size W1 w9) (gT [.v (.agg #[.bool g2, .slice A2 n2 c2, .slice B2 m2 d2]), .v (.agg #[.bool true, .int .i64 st, .slice C m cc, .int .i64 (n : Int)]), .v (.agg #[.bool g1, .slice A1 n1 c1, .slice B1 m1 d1]), .rq gr (K + 5), .rq y (K + (K + 5) + 1)]) (fun a b => Below a.heap.size a b) (dT W1.heap.size [.v (.agg #[.bool g2, .slice A2 n2 c2, .slice B2 m2 d2]), .v (.agg #[.bool true, .int .i64 st, .slice C m cc, .int .i64 (n : Int)]), .v (.agg #[.bool g1, .slice A1 n1 c1, .slice B1 m1 d1]), .rq gr (K + 5), .rq y (K + (K + 5) + 1)]) (by kernel_rfl) (by kernel_rfl) (Below.refl _ _).drew (fun j x a b h1 h2 => ⟨below_then h1 h2.1, fun i _ v => dT_keep h2.1 i v, Below.refl _ _, fun w0 h => below_then h h2.1⟩) (fun j v w h => by cases h) ?_ (fun j o _ _ h => by cases h) ?_
        · refine ⟨?_, ?_, ?_, ?_, ?_, trivial⟩
          all_goals
            intro vs w9 hp hF
            have HP := Lib.hid hp
            clear hp
            simp [depsB, Region.binds, dT] at hF
            simp [stL, depsB, Region.binds, Act.put, hF]
          · (obtain ⟨dI, hI1, hI2⟩ := row_Rat; refine wp_ld rfl 28 _ rfl (w.heap.size + 1) 0 rfl (HC1.out.2.2.1.keep HP.out) [.bool g2, .slice A2 n2 c2, .slice B2 m2 d2] (fun j v h => by rcases j with _ | _ | _ | _ | j <;> simp at h ⊢ <;> exact h) dI hI1 hI2 size_Rat ?_; go_wp2_with fail; exact ⟨rfl, Below.refl _ _, nbx rfl⟩)
          · (refine wp_ld rfl 64 _ rfl (G) 0 rfl (HBL.out.keep HP.out) [.bool true, .int .i64 st, .slice C m cc, .int .i64 (n : Int)] (fun j v h => by rcases j with _ | _ | _ | _ | j <;> simp at h ⊢ <;> exact h) dsL HLL.out.1 HLL.out.2 size_Lf ?_; go_wp2_with fail; exact ⟨rfl, Below.refl _ _, nbx rfl⟩)
          · (obtain ⟨dI, hI1, hI2⟩ := row_Rat; refine wp_ld rfl 28 _ rfl (w.heap.size) 0 rfl (HC1.out.2.1.keep HP.out) [.bool g1, .slice A1 n1 c1, .slice B1 m1 d1] (fun j v h => by rcases j with _ | _ | _ | _ | j <;> simp at h ⊢ <;> exact h) dI hI1 hI2 size_Rat ?_; go_wp2_with fail; exact ⟨rfl, Below.refl _ _, nbx rfl⟩)
          · go_wp2_with (go_at_call 71; (with_reducible refine (CG.out _ HP.out).mono ?_); rintro e1' w1' ⟨v1, rfl, ho, hb1⟩)
            exact ⟨ho.base HP.out.size, hb1, nbx rfl⟩
          · obtain ⟨e0, hq⟩ := hF
            have HQ1 := Lib.hid hq
            obtain ⟨g5, A5, n5, c5, B5, m5, d5, e5⟩ := hq.form
            rw [e5] at HQ1
            simp only [e0, e5]
            go_wp2_with (go_at_call 45; (with_reducible refine (CA.out _ _ _ HP.out HQ1.out).mono ?_); rintro e1' w1' ⟨v1, rfl, ho, hb1⟩)
            exact ⟨ho.base HP.out.size, hb1, nbx rfl⟩
        intro vs w9 hp hF hpr
        have hq : RatQ W1.heap.size w9 (vs 4) y (K + (K + 5) + 1) := hF 4 (by decide) rfl
        have HQ2 := Lib.hid hq
        obtain ⟨g8, A8, n8, c8, B8, m8, d8, e8⟩ := hq.form
        rw [e8] at HQ2
        have HBE := Lib.hid hp
        clear hF hpr hq hp
        show wpList Try.prog _ _ [_] _ _
        simp [stL, Act.put, e8]
        refine wp_st rfl 28 _ _ rfl (w.heap.size + 1) 0 [_, _, _] rfl rfl size_Rat rfl (HC1.out.2.2.1.keep HBE.out) (Nat.le_refl _) rfl ?_
        intro W5 k5 q5
        have hsz : w.heap.size + 1 + 1 + 1 + 1 ≤ W1.heap.size := cell_lt HC1.out.2.2.2.2.1.1
        have hC9 := HC1.out.keep stayQ HBE.out
        have hN := (hC9.more (D' := (fun w' => RatQ (w.heap.size + 1 + 1 + 1 + 1) w' (.agg #[.bool g1, .slice A1 n1 c1, .slice B1 m1 d1]) p.1 K ∧ RatQ (w.heap.size + 1 + 1 + 1 + 1) w' (.agg #[.bool g8, .slice A8 n8 c8, .slice B8 m8 d8]) y (K + (K + 5) + 1))) ⟨hC9.2.2.2.2.2.1, HQ2.out.base hsz⟩).box2 stayQ k5 q5
        have HN : Hid (InxS w.heap.size w (p.1, y) (K + (K + 5) + 1) W5) := Lib.hid ⟨g1, A1, n1, c1, B1, m1, d1, g8, A8, n8, c8, B8, m8, d8, hN.more ⟨hN.2.2.2.2.2.1.le (by omega), hN.2.2.2.2.2.2⟩⟩
        clear k5 q5 hsz hC9 hN CG CA HI1 HBL HC1
        go_wp2_with fail
        go_roundw
        case rel => exact ⟨k + 1, K + (K + 5) + 1, by omega, by go_num, Lib.hid (by have h := HKK.out; have h2 : 2 ^ (k + 1) = 2 ^ k * 2 := Nat.pow_succ ..; omega), by rw [HY.out]; exact HN⟩
        case measure => simp [intOf]; omega
      | false =>
        go_upto_region 11 with fail
        have hbA : Below wr.heap.size wr (wr.alloc (.cells #[.bool false, .int .i64 st, .slice C m cc, .int .i64 (n : Int)] 64)) := (Below.refl _ _).alloc (Nat.le_refl _) _
        have bxL : Box (wr.alloc (.cells #[.bool false, .int .i64 st, .slice C m cc, .int .i64 (n : Int)] 64)) wr.heap.size [.bool false, .int .i64 st, .slice C m cc, .int .i64 (n : Int)] := Box.new (by simp)
        generalize wr.alloc (.cells #[.bool false, .int .i64 st, .slice C m cc, .int .i64 (n : Int)] 64) = W1 at hbA bxL ⊢
        have HBL := Lib.hid bxL
        have HC1 := Lib.hid (HC.out.keep stayQ hbA)
        have HI1 := Lib.hid (HI.out.grow hbA)
        obtain ⟨gr, hgr⟩ : ∃ q, growF (false, st, cf, (n : Int)) p.2 = q := ⟨_, rfl⟩
        obtain ⟨y, hy⟩ : ∃ q, p.1 + gr = q := ⟨_, rfl⟩
        have CG : Hid (∀ w1, Below W1.heap.size W1 w1 → Calls Try.prog 71 #[.agg #[.bool false, .int .i64 st, .slice C m cc, .int .i64 (n : Int)], .agg #[.bool g2, .slice A2 n2 c2, .slice B2 m2 d2]] w1 (RetQ w1 gr (K + 5))) := Lib.hid fun w1 hb => by
          have hk := HKB.out
          have h1 := HKK.out.2
          have h := bk_growth false st C cc m n K cf _ p.2 w1 HOK.out.1 HOK.out.2 (HI1.out.grow hb) (HC1.out.2.2.2.2.2.2.grow hb).arg (by omega) (by omega)
          rw [hgr] at h
          exact h
        have CA : Hid (∀ u w1 b1, Below W1.heap.size W1 w1 → RatQ b1 w1 u gr (K + 5) → Calls Try.prog 45 #[.agg #[.bool g1, .slice A1 n1 c1, .slice B1 m1 d1], u] w1 (RetQ w1 y (K + (K + 5) + 1))) := Lib.hid fun u w1 b1 hb hu => by
          have hk := HKB.out
          have h1 := HKK.out.2
          have h := rt_Add _ u p.1 gr K (K + 5) w1 (HC1.out.2.2.2.2.2.1.grow hb).arg hu.arg (by omega) (by omega) (by omega) (by omega)
          rw [hy] at h
          exact h
        have HY : Hid (inxF (ls.take (k + 1)) = (y, p.2)) := Lib.hid (by rw [HIN.out]; unfold inx1; rw [if_neg (show ¬ (false = true) by decide)]; show (p.1 + growF (false, st, cf, (n : Int)) p.2, p.2) = _; rw [hgr, hy])
        obtain ⟨G, hG⟩ : ∃ G, wr.heap.size = G := ⟨_, rfl⟩
        rw [hG] at HBL ⊢
        clear hgr hy hbA bxL hG y0 y1 y2 y3
        refine wp_region_grow7 (fun i => Nat.blt i 5) (fun _ => false) (fun w9 => Below W1.heap.size W1 w9) (gT [.v (.agg #[.bool g1, .slice A1 n1 c1, .slice B1 m1 d1]), .v (.agg #[.bool false, .int .i64 st, .slice C m cc, .int .i64 (n : Int)]), .v (.agg #[.bool g2, .slice A2 n2 c2, .slice B2 m2 d2]), .rq gr (K + 5), .rq y (K + (K + 5) + 1)]) (fun a b => Below a.heap.size a b) (dT W1.heap.size [.v (.agg #[.bool g1, .slice A1 n1 c1, .slice B1 m1 d1]), .v (.agg #[.bool false, .int .i64 st, .slice C m cc, .int .i64 (n : Int)]), .v (.agg #[.bool g2, .slice A2 n2 c2, .slice B2 m2 d2]), .rq gr (K + 5), .rq y (K + (K + 5) + 1)]) (by kernel_rfl) (by kernel_rfl) (Below.refl _ _).drew (fun j x a b h1 h2 => ⟨below_then h1 h2.1, fun i _ v => dT_keep h2.1 i v, Below.refl _ _, fun w0 h => below_then h h2.1⟩) (fun j v w h => by cases h) ?_ (fun j o _ _ h => by cases h) ?_
        · refine ⟨?_, ?_, ?_, ?_, ?_, trivial⟩
          all_goals
            intro vs w9 hp hF
            have HP := Lib.hid hp
            clear hp
            simp [depsB, Region.binds, dT] at hF
            simp [stL, depsB, Region.binds, Act.put, hF]
          · (obtain ⟨dI, hI1, hI2⟩ := row_Rat; refine wp_ld rfl 28 _ rfl (w.heap.size) 0 rfl (HC1.out.2.1.keep HP.out) [.bool g1, .slice A1 n1 c1, .slice B1 m1 d1] (fun j v h => by rcases j with _ | _ | _ | _ | j <;> simp at h ⊢ <;> exact h) dI hI1 hI2 size_Rat ?_; go_wp2_with fail; exact ⟨rfl, Below.refl _ _, nbx rfl⟩)
          · (refine wp_ld rfl 64 _ rfl (G) 0 rfl (HBL.out.keep HP.out) [.bool false, .int .i64 st, .slice C m cc, .int .i64 (n : Int)] (fun j v h => by rcases j with _ | _ | _ | _ | j <;> simp at h ⊢ <;> exact h) dsL HLL.out.1 HLL.out.2 size_Lf ?_; go_wp2_with fail; exact ⟨rfl, Below.refl _ _, nbx rfl⟩)
          · (obtain ⟨dI, hI1, hI2⟩ := row_Rat; refine wp_ld rfl 28 _ rfl (w.heap.size + 1) 0 rfl (HC1.out.2.2.1.keep HP.out) [.bool g2, .slice A2 n2 c2, .slice B2 m2 d2] (fun j v h => by rcases j with _ | _ | _ | _ | j <;> simp at h ⊢ <;> exact h) dI hI1 hI2 size_Rat ?_; go_wp2_with fail; exact ⟨rfl, Below.refl _ _, nbx rfl⟩)
          · go_wp2_with (go_at_call 71; (with_reducible refine (CG.out _ HP.out).mono ?_); rintro e1' w1' ⟨v1, rfl, ho, hb1⟩)
            exact ⟨ho.base HP.out.size, hb1, nbx rfl⟩
          · obtain ⟨e0, hq⟩ := hF
            have HQ1 := Lib.hid hq
            obtain ⟨g5, A5, n5, c5, B5, m5, d5, e5⟩ := hq.form
            rw [e5] at HQ1
            simp only [e0, e5]
            go_wp2_with (go_at_call 45; (with_reducible refine (CA.out _ _ _ HP.out HQ1.out).mono ?_); rintro e1' w1' ⟨v1, rfl, ho, hb1⟩)
            exact ⟨ho.base HP.out.size, hb1, nbx rfl⟩
        intro vs w9 hp hF hpr
        have hq : RatQ W1.heap.size w9 (vs 4) y (K + (K + 5) + 1) := hF 4 (by decide) rfl
        have HQ2 := Lib.hid hq
        obtain ⟨g8, A8, n8, c8, B8, m8, d8, e8⟩ := hq.form
        rw [e8] at HQ2
        have HBE := Lib.hid hp
        clear hF hpr hq hp
        show wpList Try.prog _ _ [_] _ _
        simp [stL, Act.put, e8]
        refine wp_st rfl 28 _ _ rfl (w.heap.size) 0 [_, _, _] rfl rfl size_Rat rfl (HC1.out.2.1.keep HBE.out) (Nat.le_refl _) rfl ?_
        intro W5 k5 q5
        have hsz : w.heap.size + 1 + 1 + 1 + 1 ≤ W1.heap.size := cell_lt HC1.out.2.2.2.2.1.1
        have hC9 := HC1.out.keep stayQ HBE.out
        have hN := (hC9.more (D' := (fun w' => RatQ (w.heap.size + 1 + 1 + 1 + 1) w' (.agg #[.bool g8, .slice A8 n8 c8, .slice B8 m8 d8]) y (K + (K + 5) + 1) ∧ RatQ (w.heap.size + 1 + 1 + 1 + 1) w' (.agg #[.bool g2, .slice A2 n2 c2, .slice B2 m2 d2]) p.2 K)) ⟨HQ2.out.base hsz, hC9.2.2.2.2.2.2⟩).box1 stayQ k5 q5
        have HN : Hid (InxS w.heap.size w (y, p.2) (K + (K + 5) + 1) W5) := Lib.hid ⟨g8, A8, n8, c8, B8, m8, d8, g2, A2, n2, c2, B2, m2, d2, hN.more ⟨hN.2.2.2.2.2.1, hN.2.2.2.2.2.2.le (by omega)⟩⟩
        clear k5 q5 hsz hC9 hN CG CA HI1 HBL HC1
        go_wp2_with fail
        go_roundw
        case rel => exact ⟨k + 1, K + (K + 5) + 1, by omega, by go_num, Lib.hid (by have h := HKK.out; have h2 : 2 ^ (k + 1) = 2 ^ k * 2 := Nat.pow_succ ..; omega), by rw [HY.out]; exact HN⟩
        case measure => simp [intOf]; omega
    · obtain rfl : ls.length = k := by omega
      obtain ⟨g1, A1, n1, c1, B1, m1, d1, g2, A2, n2, c2, B2, m2, d2, hC⟩ := HS.out
      have HFP : Hid (inxF ls = p) := Lib.hid (by have h := HPP.out; rwa [List.take_length] at h)
      have hKb : K ≤ 32768 := by
        have h1 := HKK.out.1
        have h2 : 2 ^ ls.length ≤ 2 ^ 12 := Nat.pow_le_pow_right (by decide) HLF.out.1
        omega
      have HKB := Lib.hid hKb
      have HC := Lib.hid hC
      clear hC hKb HS
      go_upto_region 13 with fail
      refine wp_region_grow 6 (InxC w.heap.size w [.bool g1, .slice A1 n1 c1, .slice B1 m1 d1] [.bool g2, .slice A2 n2 c2, .slice B2 m2 d2] 0 (fun w' => RatQ (w.heap.size + 1 + 1 + 1 + 1) w' (.agg #[.bool g1, .slice A1 n1 c1, .slice B1 m1 d1]) p.1 K ∧ RatQ (w.heap.size + 1 + 1 + 1 + 1) w' (.agg #[.bool g2, .slice A2 n2 c2, .slice B2 m2 d2]) p.2 K)) (fun a b => InxC w.heap.size w [.bool g1, .slice A1 n1 c1, .slice B1 m1 d1] [.bool g2, .slice A2 n2 c2, .slice B2 m2 d2] 0 (fun w' => RatQ (w.heap.size + 1 + 1 + 1 + 1) w' (.agg #[.bool g1, .slice A1 n1 c1, .slice B1 m1 d1]) p.1 K ∧ RatQ (w.heap.size + 1 + 1 + 1 + 1) w' (.agg #[.bool g2, .slice A2 n2 c2, .slice B2 m2 d2]) p.2 K) b) (fun i v w9 => match i with | 0 => v = .agg #[.bool g1, .slice A1 n1 c1, .slice B1 m1 d1] | 1 => v = .agg #[.bool g2, .slice A2 n2 c2, .slice B2 m2 d2] | 2 => v = .int .i64 0 | _ => True) (by kernel_rfl) (by kernel_rfl) (HC.out.drew stayQ) (fun a b h1 h2 => ⟨h2, fun i hi v h => h⟩) ?_ ?_
      · refine ⟨?_, ?_, ?_, ?_, ?_, ?_, trivial⟩
        all_goals
          intro vs w9 hp hF
          have HP := Lib.hid hp
          have e0 := hp.2.2.2.1.1
          have f0 := hp.2.2.2.1.2
          clear hp
          simp [depsB, Region.binds] at hF
          simp [stL, depsB, Region.binds, Act.put, hF]
        · (refine wp_ld rfl 28 _ rfl (w.heap.size) 0 rfl (HP.out.2.1) [.bool g1, .slice A1 n1 c1, .slice B1 m1 d1] (fun j v h => by rcases j with _ | _ | _ | j <;> simp at h ⊢ <;> exact h) dsR HRR.out.1 HRR.out.2 size_Rat ?_; go_wp2_with fail; exact HP.out)
        · (refine wp_ld rfl 28 _ rfl (w.heap.size + 1) 0 rfl (HP.out.2.2.1) [.bool g2, .slice A2 n2 c2, .slice B2 m2 d2] (fun j v h => by rcases j with _ | _ | _ | j <;> simp at h ⊢ <;> exact h) dsR HRR.out.1 HRR.out.2 size_Rat ?_; go_wp2_with fail; exact HP.out)
        · go_wp2_with fail
          exact HP.out
        · refine wp_st rfl 28 _ _ rfl (w.heap.size) 0 [_, _, _] rfl rfl size_Rat rfl HP.out.2.1 (Nat.le_refl _) rfl ?_
          intro W9 c9 g9
          go_wp2_with fail
          exact HP.out.box1 stayQ c9 g9
        · refine wp_st rfl 28 _ _ rfl (w.heap.size + 1) 0 [_, _, _] rfl rfl size_Rat rfl HP.out.2.2.1 (Nat.le_refl _) rfl ?_
          intro W9 c9 g9
          go_wp2_with fail
          exact HP.out.box2 stayQ c9 g9
        · go_wp2_with fail
          exact HP.out.err stayQ
      intro vs w9 hp hF
      clear hF
      have HP := Lib.hid hp
      clear hp
      show wpList Try.prog _ _ [] _ _
      simp [stL, Act.put]
      go_wp2_with fail
      first | go_end0 | go_wp2
      refine leaves_cons (f := 64) (args := #[.pointer (some ⟨w.heap.size + 1 + 1 + 1, 0, none⟩), .pointer (some ⟨w.heap.size + 1 + 1, 0, none⟩)]) (by simp) (by simp [go_sem]) ?_
      refine (bk_report (w.heap.size + 1 + 1 + 1) (w.heap.size + 1 + 1) 0 0 .returning _ HP.out.2.2.2.2.1.1 HP.out.2.2.2.1.1 HP.out.2.2.2.1.2).mono ?_
      rintro e u' w'' ⟨rfl, rfl, rfl⟩
      have hg : w9.grownBy (w9.setCell ⟨w.heap.size + 1 + 1, 0, none⟩ (.int .i64 0)) (some (w.heap.size + 1 + 1)) := grown_set (grown_refl _ _)
      have q1 : Box (w9.setCell ⟨w.heap.size + 1 + 1, 0, none⟩ (.int .i64 0)) w.heap.size [.bool g1, .slice A1 n1 c1, .slice B1 m1 d1] := HP.out.2.1.grown hg (fun e => by injection e with e; omega)
      have q2 : Box (w9.setCell ⟨w.heap.size + 1 + 1, 0, none⟩ (.int .i64 0)) (w.heap.size + 1) [.bool g2, .slice A2 n2 c2, .slice B2 m2 d2] := HP.out.2.2.1.grown hg (fun e => by injection e with e; omega)
      have q3 := (HP.out.2.2.2.1.set 0).1
      have hW : Below w.heap.size w (w9.setCell ⟨w.heap.size + 1 + 1, 0, none⟩ (.int .i64 0)) := put_facts HP.out.1 (by omega) hg
      refine ⟨.tuple #[.agg #[.bool g1, .slice A1 n1 c1, .slice B1 m1 d1], .agg #[.bool g2, .slice A2 n2 c2, .slice B2 m2 d2], .int .i64 0], resCCC rfl _ _ _ rfl rfl rfl (res_box 28 q1 dsR HRR.out.1 HRR.out.2 size_Rat) (res_box 28 q2 dsR HRR.out.1 HRR.out.2 size_Rat) (by simp [go_sem, q3]), ?_⟩
      have hq := stayQ.1 _ _ _ (by omega) HP.out.2.2.2.2.2 hg
      rw [HFP.out]
      have hkb := HKB.out
      exact ⟨_, _, rfl, hq.1.arg.le (by omega), hq.2.arg.le (by omega), hW⟩
end Go.Proofs.Ytmdfgidejdiiiaa
