/- Reference of banks: Inexact. Printed by gen_kh.py. -/
import Derived.Test.YtmdfgidejdiiiaadKg
import Derived.Test.YtmdfgidejdiiiaadR1toR2
set_option linter.unusedVariables false
set_option linter.unusedSimpArgs false
namespace Go.Proofs.Ytmdfgidejdiiiaa
open Go.RowKit
theorem TyB.set {w : World} {q g o : Nat} {t : TypeId} (h : TyB w q t) (v : Value) : TyB (w.setCell ⟨g, o, none⟩ v) q t := by
  obtain ⟨cs, r, e⟩ := h
  by_cases hq : q = g
  · subst hq
    exact ⟨cs.setIfInBounds o v, r, by simp [World.setCell, Array.getElem?_modify, e]⟩
  · exact ⟨cs, r, (Below.heap_setCell w _ v q hq).trans e⟩
theorem TyB.under {w w' : World} {q b : Nat} {t : TypeId} (h : TyB w q t) (hb : Below b w w') (hq : q < b) : TyB w' q t := by
  obtain ⟨cs, r, e⟩ := h
  exact ⟨cs, r, (hb.block q hq).trans e⟩
theorem TyB.sets {q g : Nat} {t : TypeId} : ∀ (l : List Value) (k : Nat) (w : World), TyB w q t → TyB (w.setCells g k l) q t
  | [], _, _, h => h
  | v :: l, k, w, h => TyB.sets l (k + 1) _ (h.set v)
theorem wp_stT {ops : Array Oper} {rest : List Oper} {o : Oper} {a : Act} {Q : Exit → Act → World → Prop} {w : World} (hgd : o.guard = none) (ty : TypeId) (x y : Operand) (ho : o.op = .store ty x y) (g k : Nat) (cs : List Value) (hx : a.eval x = .pointer (some ⟨g, k, none⟩)) (hy : a.eval y = .agg cs.toArray)
    (hi : (Try.prog.info? ty).map (·.size) = some cs.length) (h1 : cs.all (·.oneCell') = true) {vs vs' : List Value} (hb : Box w g vs) (hk : k + cs.length ≤ vs.length) (e : vs.take k ++ cs ++ vs.drop (k + cs.length) = vs')
    (h : ∀ W1, Box W1 g vs' → w.grownBy W1 (some g) → (∀ q t, TyB w q t → TyB W1 q t) → wpList Try.prog ops Q rest (a.put o.dst undef) W1) : wpList Try.prog ops Q (o :: rest) a w := by
  refine wpList_store_mid hgd ty x y ho g k cs.toArray hx hy (by simpa using hb.there hk) (by simpa using hi) (all_oneCell_toArray (fun v hv => List.all_eq_true.1 h1 v hv)) ?_
  have e2 : cs.toArray.toList = cs := by simp
  rw [e2]
  refine h _ ?_ (sets_grown _ _ _ (grown_refl w (some g))) (fun q t h => TyB.sets _ _ _ h)
  rw [← e]
  exact Box.sets _ _ _ _ hb hk
theorem Lifts.atW {w : World} {A : Option Addr} {ls : List Lft} {k : Nat} {s : Lft} (h : Lifts w A ls) (hk : ls[k]? = some s) : ∃ ad C c, A = some ad ∧ ∀ w1, Below w.heap.size w w1 → (w1.cell? (ad.add (k * 4)) = some (.bool s.1) ∧ w1.cell? ⟨(ad.add (k * 4)).block, (ad.add (k * 4)).off + 1, none⟩ = some (.int .i64 s.2.1) ∧
    w1.cell? ⟨(ad.add (k * 4)).block, (ad.add (k * 4)).off + 2, none⟩ = some (.slice C s.2.2.1.length c) ∧ w1.cell? ⟨(ad.add (k * 4)).block, (ad.add (k * 4)).off + 3, none⟩ = some (.int .i64 s.2.2.2)) ∧ Ints w1 C s.2.2.1 := by
  obtain ⟨ad, C, c, e, h1, c0, c1, c2, c3, hi, -, -⟩ := h k s hk
  exact ⟨ad, C, c, e, fun w1 hb => ⟨⟨(hb.cell (by rw [block_add]; exact h1)).trans c0, (hb.cell (by show (ad.add _).block < _; rw [block_add]; exact h1)).trans c1, (hb.cell (by show (ad.add _).block < _; rw [block_add]; exact h1)).trans c2, (hb.cell (by show (ad.add _).block < _; rw [block_add]; exact h1)).trans c3⟩, hi.grow hb⟩⟩
theorem rat_swap (x g o : Rat) : x + (g + o) = x + o + g := by rw [Rat.add_assoc, Rat.add_comm o g]
theorem rndB_one (c : List Int) : ∀ k, rndB c 1 k = false
  | 0 => rfl
  | k + 1 => by unfold rndB; rw [rndB_one c k]; simp [Int.emod_one]
theorem RowQ.lit2 {w : World} {base : Nat} {g1 g2 : Bool} {A1 B1 A2 B2 : Option Addr} {n1 c1 m1 d1 n2 c2 m2 d2 : Nat} {p1 p2 : Rat} {K : Nat} (h1 : RatQ 0 w (.agg #[.bool g1, .slice A1 n1 c1, .slice B1 m1 d1]) p1 K) (h2 : RatQ 0 w (.agg #[.bool g2, .slice A2 n2 c2, .slice B2 m2 d2]) p2 K) (hb : base ≤ w.heap.size) :
    RowQ base (w.alloc (.cells #[.bool g1, .slice A1 n1 c1, .slice B1 m1 d1, .bool g2, .slice A2 n2 c2, .slice B2 m2 d2] 28)) (.slice (some ⟨w.heap.size, 0, none⟩) 2 2) [p1, p2] K := by
  have hg : Below w.heap.size w (w.alloc (.cells #[.bool g1, .slice A1 n1 c1, .slice B1 m1 d1, .bool g2, .slice A2 n2 c2, .slice B2 m2 d2] 28)) := (Below.refl _ _).alloc (Nat.le_refl _) _
  refine ⟨[.agg #[.bool g1, .slice A1 n1 c1, .slice B1 m1 d1], .agg #[.bool g2, .slice A2 n2 c2, .slice B2 m2 d2]], ⟨rfl, .inr ⟨w.heap.size, 2, _, rfl, hb, heap_alloc_new w _, Nat.le_refl _, by unfold maxLen; omega, rfl, rfl⟩⟩, rfl, fun i u z hu hz => ?_⟩
  match i, hu, hz with
  | 0, hu, hz => simp at hu hz; subst hu hz; exact h1.grow hg
  | 1, hu, hz => simp at hu hz; subst hu hz; exact h2.grow hg
def InyC (b : Nat) (w : World) (ga : Nat) (cs ds : List Value) (p : Rat × Rat) (K : Nat) (w' : World) : Prop :=
  Below b w w' ∧ (∃ xs : List Value, Box w' b xs ∧ xs.length = 3) ∧ (∃ ys : List Value, Box w' (b + 1) ys ∧ ys.length = 3) ∧ (TyB w' b 28 ∧ TyB w' (b + 1) 28) ∧ (b + 1 < ga ∧ ga < w'.heap.size) ∧ (w'.rangeAt ga 0 cs ∧ w'.rangeAt ga 3 ds) ∧ RatQ 0 w' (.agg cs.toArray) p.1 K ∧ RatQ 0 w' (.agg ds.toArray) p.2 K
def InyG (b : Nat) (w : World) (ga : Nat) (cs ds : List Value) (p : Rat × Rat) (K : Nat) (w1 w2 : World) : Prop := InyC b w ga cs ds p K w2 ∧ (Box w1 b cs → Box w2 b cs) ∧ (Box w1 (b + 1) ds → Box w2 (b + 1) ds)
def InyF (b : Nat) (sl : Value) (ga : Nat) (cs ds : List Value) : Nat → Value → World → Prop
  | 0, v, _ => v = sl
  | 1, v, _ => v = .pointer (some ⟨ga, 0, none⟩)
  | 2, v, _ => v = .agg cs.toArray
  | 3, v, _ => v = sl
  | 4, v, _ => v = .pointer (some ⟨ga, 3, none⟩)
  | 5, v, _ => v = .agg ds.toArray
  | 6, _, w => Box w b cs
  | 7, _, w => Box w (b + 1) ds
  | 8, v, _ => v = .int .i64 0
  | _, _, _ => True
theorem InyF_keep {b ga : Nat} {w w1 w2 : World} {sl : Value} {cs ds : List Value} {p : Rat × Rat} {K : Nat} (h : InyG b w ga cs ds p K w1 w2) (i : Nat) (v : Value) (hf : InyF b sl ga cs ds i v w1) : InyF b sl ga cs ds i v w2 := by
  unfold InyF at hf ⊢
  split at hf <;> first | exact hf | exact h.2.1 hf | exact h.2.2 hf
theorem range_grown {w w' : World} {g o q : Nat} {cs : List Value} (h : w.rangeAt g o cs) (hg : w.grownBy w' (some q)) (hl : g < w.heap.size) (hn : g ≠ q) : w'.rangeAt g o cs := fun j v hv => (World.cell?_of_block (a := ⟨g, _, none⟩) (hg.block g hl (fun e => hn (by injection e)))).trans (h j v hv)
theorem InyC.stay {b : Nat} {w : World} {ga : Nat} {cs ds : List Value} {p : Rat × Rat} {K : Nat} {w1 : World} (h : InyC b w ga cs ds p K w1) : InyG b w ga cs ds p K w1 w1 := ⟨h, id, id⟩
theorem InyC.drew {b : Nat} {w : World} {ga : Nat} {cs ds : List Value} {p : Rat × Rat} {K : Nat} {w1 : World} (h : InyC b w ga cs ds p K w1) : InyC b w ga cs ds p K w1.drew := by
  obtain ⟨h1, ⟨xs, h2, l2⟩, ⟨ys, h3, l3⟩, ⟨h4, h5⟩, ⟨h6, h6'⟩, ⟨h7, h8⟩, h9, h10⟩ := h
  exact ⟨h1.drew, ⟨xs, h2.drew, l2⟩, ⟨ys, h3.drew, l3⟩, ⟨h4.grow (Below.refl _ _).drew, h5.grow (Below.refl _ _).drew⟩, ⟨h6, h6'⟩, ⟨h7, h8⟩, h9.grow (Below.refl _ _).drew, h10.grow (Below.refl _ _).drew⟩
theorem InyC.st1 {b : Nat} {w : World} {ga : Nat} {cs ds : List Value} {p : Rat × Rat} {K : Nat} {w1 w2 : World} (h : InyC b w ga cs ds p K w1) (hc : cs.length = 3) (hb : Box w2 b cs) (hg : w1.grownBy w2 (some b)) (ht : ∀ q t, TyB w1 q t → TyB w2 q t) : InyG b w ga cs ds p K w1 w2 := by
  obtain ⟨h1, ⟨xs, h2, l2⟩, ⟨ys, h3, l3⟩, ⟨h4, h5⟩, ⟨h6, h6'⟩, ⟨h7, h8⟩, h9, h10⟩ := h
  have hl := h2.1
  refine ⟨⟨h1.grown hg (by omega) (fun k e => by injection e with e; omega), ⟨cs, hb, hc⟩, ⟨ys, h3.grown hg (fun e => by injection e with e; omega), l3⟩, ⟨ht _ _ h4, ht _ _ h5⟩, ⟨h6, Nat.lt_of_lt_of_le h6' hg.size⟩, ⟨range_grown h7 hg h6' (by omega), range_grown h8 hg h6' (by omega)⟩, h9.keptT hg h4 (by decide), h10.keptT hg h4 (by decide)⟩, fun _ => hb, fun h => h.grown hg (fun e => by injection e with e; omega)⟩
theorem InyC.st2 {b : Nat} {w : World} {ga : Nat} {cs ds : List Value} {p : Rat × Rat} {K : Nat} {w1 w2 : World} (h : InyC b w ga cs ds p K w1) (hc : ds.length = 3) (hb : Box w2 (b + 1) ds) (hg : w1.grownBy w2 (some (b + 1))) (ht : ∀ q t, TyB w1 q t → TyB w2 q t) : InyG b w ga cs ds p K w1 w2 := by
  obtain ⟨h1, ⟨xs, h2, l2⟩, ⟨ys, h3, l3⟩, ⟨h4, h5⟩, ⟨h6, h6'⟩, ⟨h7, h8⟩, h9, h10⟩ := h
  have hl := h2.1
  refine ⟨⟨h1.grown hg (by omega) (fun k e => by injection e with e; omega), ⟨xs, h2.grown hg (fun e => by injection e with e; omega), l2⟩, ⟨ds, hb, hc⟩, ⟨ht _ _ h4, ht _ _ h5⟩, ⟨h6, Nat.lt_of_lt_of_le h6' hg.size⟩, ⟨range_grown h7 hg h6' (by omega), range_grown h8 hg h6' (by omega)⟩, h9.keptT hg h5 (by decide), h10.keptT hg h5 (by decide)⟩, fun h => h.grown hg (fun e => by injection e with e; omega), fun _ => hb⟩
set_option maxRecDepth 100000 in
set_option maxHeartbeats 4000000 in
theorem r33_Inexact_no (A : Option Addr) (ls : List Lft) (c n : Nat) (w : World) (hL : Lifts w A ls) (hn : ls.length = n) (hl : n ≤ 1000000) (hl2 : ∀ s ∈ ls, s.2.2.1.length ≤ 9223372036854775807) (hok : lftsB ls = false) :
    Calls Try.prog 22 #[.slice A n c] w (RetQQ w 0 0 1 2) := by
  subst hn
  have HL0 := Lib.hid hL
  have CV : Hid (∀ w1, Below w.heap.size w w1 → Calls Try.prog 24 #[.slice A ls.length c] w1 fun e w' => e = .returned (.bool false) ∧ Below w1.heap.size w1 w') := Lib.hid fun w1 hb => hok ▸ (r33_Valid A ls c w1 (hL.grow hb) hl hl2).mono fun e w' h => ⟨h.1, h.2 ▸ Below.refl _ _⟩
  clear hok hL hl2
  obtain ⟨dsR, hR1, hR2⟩ := row_Rat
  have HRR := Lib.hid (And.intro hR1 hR2)
  clear hR1 hR2
  go_enter Try.func22, Try.ntmps22
  go_upto_region 1 with fail
  have HTY : Hid (TyB ((w.alloc (.cells #[.bool false, .slice none 0 0, .slice none 0 0] 28)).alloc (.cells #[.bool false, .slice none 0 0, .slice none 0 0] 28)) w.heap.size 28 ∧ TyB ((w.alloc (.cells #[.bool false, .slice none 0 0, .slice none 0 0] 28)).alloc (.cells #[.bool false, .slice none 0 0, .slice none 0 0] 28)) (w.heap.size + 1) 28) := Lib.hid ⟨TyB.new.grow ((Below.refl _ _).alloc (Nat.le_refl _) _), by have h := TyB.new (w := w.alloc (.cells #[.bool false, .slice none 0 0, .slice none 0 0] 28)) (cs := #[.bool false, .slice none 0 0, .slice none 0 0]) (t := 28); simpa using h⟩
  have hB0 : Below w.heap.size w ((w.alloc (.cells #[.bool false, .slice none 0 0, .slice none 0 0] 28)).alloc (.cells #[.bool false, .slice none 0 0, .slice none 0 0] 28)) := (((Below.refl _ _).alloc (Nat.le_refl _) _).alloc (by simp; try omega) _)
  have bx0 : Box ((w.alloc (.cells #[.bool false, .slice none 0 0, .slice none 0 0] 28)).alloc (.cells #[.bool false, .slice none 0 0, .slice none 0 0] 28)) (w.heap.size) [.bool false, .slice none 0 0, .slice none 0 0] := ((Box.new (by simp)).alloc _)
  have bx1 : Box ((w.alloc (.cells #[.bool false, .slice none 0 0, .slice none 0 0] 28)).alloc (.cells #[.bool false, .slice none 0 0, .slice none 0 0] 28)) (w.heap.size + 1) [.bool false, .slice none 0 0, .slice none 0 0] := (Box.new (by simp))
  generalize (w.alloc (.cells #[.bool false, .slice none 0 0, .slice none 0 0] 28)).alloc (.cells #[.bool false, .slice none 0 0, .slice none 0 0] 28) = wA at HTY hB0 bx0 bx1 ⊢
  have HA := Lib.hid (And.intro hB0 (And.intro bx0 bx1))
  clear hB0 bx0 bx1
  go_upto_region 2 with (go_at_call 24; (with_reducible refine (CV.out _ HA.out.1).mono ?_); rintro e1 w1 ⟨rfl, hb1⟩; have HB1 := Lib.hid hb1; clear hb1)
  go_wp2_with (first
    | ((with_reducible show wpList _ _ _ (Oper.mk none (.store 28 (.tmp 2) _) _ _ _ _ :: _) _ _); refine wp_st rfl 28 _ _ rfl (w.heap.size) 0 [_, _, _] rfl rfl size_Rat rfl (HA.out.2.1.keep HB1.out) (Nat.le_refl _) rfl ?_; intro W5 c5 g5)
    | ((with_reducible show wpList _ _ _ (Oper.mk none (.store 28 (.tmp 3) _) _ _ _ _ :: _) _ _); refine wp_st rfl 28 _ _ rfl (w.heap.size + 1) 0 [_, _, _] rfl rfl size_Rat rfl ((HA.out.2.2.keep HB1.out).grown g5 (fun e => by injection e with e; omega)) (Nat.le_refl _) rfl ?_; intro W6 c6 g6))
  have q1 := c5.grown g6 (fun e => by injection e with e; omega)
  have hW := put_facts (put_facts (below_then HA.out.1 HB1.out) (by omega) g5) (by omega) g6
  refine bodyPost_ret (resCCT rfl _ _ W6 rfl rfl (res_box 28 q1 dsR HRR.out.1 HRR.out.2 size_Rat) (res_box 28 c6 dsR HRR.out.1 HRR.out.2 size_Rat)) rfl ?_
  exact ⟨_, _, rfl, RatA.zero, RatA.zero, hW⟩
set_option maxRecDepth 100000 in
set_option maxHeartbeats 4000000 in
theorem r33_Inexact_ok (A : Option Addr) (ls : List Lft) (c n : Nat) (w : World) (hL : Lifts w A ls) (hn : ls.length = n) (hl : n ≤ 1000000) (hl2 : ∀ s ∈ ls, s.2.2.1.length ≤ 9223372036854775807) (hok : lftsB ls = true) :
    Calls Try.prog 22 #[.slice A n c] w (RetQQ w (inxF ls).1 (inxF ls).2 50000 0) := by
  subst hn
  have HL0 := Lib.hid hL
  have CV : Hid (∀ w1, Below w.heap.size w w1 → Calls Try.prog 24 #[.slice A ls.length c] w1 fun e w' => e = .returned (.bool true) ∧ Below w1.heap.size w1 w') := Lib.hid fun w1 hb => hok ▸ (r33_Valid A ls c w1 (hL.grow hb) hl hl2).mono fun e w' h => ⟨h.1, h.2 ▸ Below.refl _ _⟩
  have HLF := Lib.hid (lfts_ok hok)
  clear hok hL hl2
  obtain ⟨dsR, hR1, hR2⟩ := row_Rat
  have HRR := Lib.hid (And.intro hR1 hR2)
  clear hR1 hR2
  go_enter Try.func22, Try.ntmps22
  go_upto_region 1 with fail
  have HTY : Hid (TyB ((w.alloc (.cells #[.bool false, .slice none 0 0, .slice none 0 0] 28)).alloc (.cells #[.bool false, .slice none 0 0, .slice none 0 0] 28)) w.heap.size 28 ∧ TyB ((w.alloc (.cells #[.bool false, .slice none 0 0, .slice none 0 0] 28)).alloc (.cells #[.bool false, .slice none 0 0, .slice none 0 0] 28)) (w.heap.size + 1) 28) := Lib.hid ⟨TyB.new.grow ((Below.refl _ _).alloc (Nat.le_refl _) _), by have h := TyB.new (w := w.alloc (.cells #[.bool false, .slice none 0 0, .slice none 0 0] 28)) (cs := #[.bool false, .slice none 0 0, .slice none 0 0]) (t := 28); simpa using h⟩
  have hB0 : Below w.heap.size w ((w.alloc (.cells #[.bool false, .slice none 0 0, .slice none 0 0] 28)).alloc (.cells #[.bool false, .slice none 0 0, .slice none 0 0] 28)) := (((Below.refl _ _).alloc (Nat.le_refl _) _).alloc (by simp; try omega) _)
  have bx0 : Box ((w.alloc (.cells #[.bool false, .slice none 0 0, .slice none 0 0] 28)).alloc (.cells #[.bool false, .slice none 0 0, .slice none 0 0] 28)) (w.heap.size) [.bool false, .slice none 0 0, .slice none 0 0] := ((Box.new (by simp)).alloc _)
  have bx1 : Box ((w.alloc (.cells #[.bool false, .slice none 0 0, .slice none 0 0] 28)).alloc (.cells #[.bool false, .slice none 0 0, .slice none 0 0] 28)) (w.heap.size + 1) [.bool false, .slice none 0 0, .slice none 0 0] := (Box.new (by simp))
  generalize (w.alloc (.cells #[.bool false, .slice none 0 0, .slice none 0 0] 28)).alloc (.cells #[.bool false, .slice none 0 0, .slice none 0 0] 28) = wA at HTY hB0 bx0 bx1 ⊢
  have HA := Lib.hid (And.intro hB0 (And.intro bx0 bx1))
  clear hB0 bx0 bx1
  have CO : Hid (∀ w1, Calls Try.prog 38 #[.int .i64 0] w1 (RetQ w1 ((0 : Int) : Rat) 2)) := Lib.hid fun w1 => r3_Of 0 w1 (by unfold I64; omega)
  go_upto_region 3 with (go_at_call 24; (with_reducible refine (CV.out _ HA.out.1).mono ?_); rintro e1 w1 ⟨rfl, hb1⟩; have HB1 := Lib.hid hb1; clear hb1)
  go_wp2_with fail
  refine (CO.out _).mono ?_
  rintro e w3 ⟨v3, rfl, hq3, hb3⟩
  obtain ⟨g1, A1, n1, c1, B1, m1, d1, e3⟩ := hq3.form
  subst e3
  go_wp2_with fail
  refine (CO.out _).mono ?_
  rintro e w4 ⟨v4, rfl, hq4, hb4⟩
  obtain ⟨g2, A2, n2, c2, B2, m2, d2, e4⟩ := hq4.form
  subst e4
  have hq1 : RatQ 0 w4 (.agg #[.bool g1, .slice A1 n1 c1, .slice B1 m1 d1]) ((0 : Int) : Rat) 2 := (hq3.grow hb4).base (Nat.zero_le _)
  have hq2 : RatQ 0 w4 (.agg #[.bool g2, .slice A2 n2 c2, .slice B2 m2 d2]) ((0 : Int) : Rat) 2 := hq4.base (Nat.zero_le _)
  have hbw : Below wA.heap.size wA w4 := below_then (below_then HB1.out hb3) hb4
  go_upto_region 4 with fail
  have hbA : Below w4.heap.size w4 (w4.alloc (.cells #[.bool g1, .slice A1 n1 c1, .slice B1 m1 d1, .bool g2, .slice A2 n2 c2, .slice B2 m2 d2] 28)) := (Below.refl _ _).alloc (Nat.le_refl _) _
  have hrow : RowQ w4.heap.size (w4.alloc (.cells #[.bool g1, .slice A1 n1 c1, .slice B1 m1 d1, .bool g2, .slice A2 n2 c2, .slice B2 m2 d2] 28)) (.slice (some ⟨w4.heap.size, 0, none⟩) 2 2) [((0 : Int) : Rat), ((0 : Int) : Rat)] 2 := RowQ.lit2 hq1 hq2 (Nat.le_refl _)
  generalize w4.alloc (.cells #[.bool g1, .slice A1 n1 c1, .slice B1 m1 d1, .bool g2, .slice A2 n2 c2, .slice B2 m2 d2] 28) = W0 at hbA hrow ⊢
  have hb0 := below_then hbw hbA
  have HGA : Hid (w.heap.size + 1 < w4.heap.size) := Lib.hid (Nat.lt_of_lt_of_le HA.out.2.2.1 hbw.size)
  have HA0 : Hid (Below w.heap.size w W0 ∧ Box W0 w.heap.size [.bool false, .slice none 0 0, .slice none 0 0] ∧ Box W0 (w.heap.size + 1) [.bool false, .slice none 0 0, .slice none 0 0] ∧ TyB W0 w.heap.size 28 ∧ TyB W0 (w.heap.size + 1) 28) := Lib.hid ⟨below_then HA.out.1 hb0, HA.out.2.1.keep hb0, HA.out.2.2.keep hb0, HTY.out.1.grow hb0, HTY.out.2.grow hb0⟩
  obtain ⟨ga, hga⟩ : ∃ g, w4.heap.size = g := ⟨_, rfl⟩
  rw [hga] at hrow HGA ⊢
  have HR0 : Hid (RowQ ga W0 (.slice (some ⟨ga, 0, none⟩) 2 2) [(inxF (ls.take 0)).1, (inxF (ls.take 0)).2] 2) := Lib.hid hrow
  clear hq1 hq2 hq3 hq4 hb3 hb4 hbA hbw hb0 hrow hga CV CO HB1 HA HTY
  go_wp2_with fail
  go_loopw [6] (fun i wr => ∃ (k : Nat) (K : Nat), k ≤ ls.length ∧ i = .int .i64 k ∧ Hid (K + 9 ≤ 11 * 2 ^ k ∧ 2 ≤ K) ∧ Hid (RowQ ga wr (.slice (some ⟨ga, 0, none⟩) 2 2) [(inxF (ls.take k)).1, (inxF (ls.take k)).2] K) ∧ Hid (Below ga W0 wr)) (fun i _ => ls.length - (intOf i).toNat)
  case atStart => exact ⟨0, 2, Nat.zero_le _, rfl, Lib.hid (by decide), HR0, Lib.hid (Below.refl _ _)⟩
  case round =>
    obtain ⟨k, K, hk, rfl, HKK, HR, HBW⟩ := hrel
    obtain ⟨p, hp⟩ : ∃ p, inxF (ls.take k) = p := ⟨_, rfl⟩
    rw [hp] at HR
    have HPP := Lib.hid hp
    clear hp
    have HLW : Hid (Below w.heap.size w wr) := Lib.hid (HA0.out.1.trans (HBW.out.mono (by have := HGA.out; omega)))
    by_cases hlt : k < ls.length
    · obtain ⟨s, hs⟩ : ∃ s, ls[k]? = some s := ⟨_, List.getElem?_eq_getElem hlt⟩
      have hok := HLF.out.2 s (List.mem_of_getElem? hs)
      have HIN : Hid (inxF (ls.take (k + 1)) = inx1 p s) := Lib.hid (by rw [inx_take hs, HPP.out])
      obtain ⟨ad, C, cc, rfl, hL⟩ := (HL0.out.grow HLW.out).atW hs
      obtain ⟨o, st, cf, sh⟩ := s
      dsimp only at hL
      obtain ⟨n, rfl⟩ : ∃ n : Nat, sh = n := ⟨sh.toNat, by have := hok.2.1; simp at this; omega⟩
      obtain ⟨m, hm⟩ : ∃ m, cf.length = m := ⟨_, rfl⟩
      rw [hm] at hL
      have hn20 : n ≤ 20 := by have := hok.2.2.1; simp at this; omega
      have hm8 : m ≤ 8 := by have := hok.1; simp at this; omega
      obtain ⟨P, hP⟩ : ∃ P : Int, (2 : Int) ^ n = P := ⟨_, rfl⟩
      have hpi : 0 < P ∧ P ≤ 2147483648 := hP ▸ ⟨pow2_pos n, pow_up (by omega)⟩
      have hw : wrap64 (2 ^ n) = P := by rw [hP]; unfold wrap64; omega
      have HL := Lib.hid hL
      have HOK := Lib.hid (And.intro hok (And.intro hm hm8))
      have HN := Lib.hid (And.intro hP hn20)
      have HP0 := Lib.hid hpi.1
      have HPB := Lib.hid hpi.2
      have hKb : K ≤ 45056 := by
        have h1 := HKK.out.1
        have h2 : 2 ^ k ≤ 2 ^ 12 := Nat.pow_le_pow_right (by decide) (by have := HLF.out.1; omega)
        omega
      have HKB := Lib.hid hKb
      have x9 : (0 : Int) ≤ (n : Int) := by omega
      obtain ⟨⟨y0, y1, y2, y3⟩, hcf⟩ := hL _ (Below.refl _ _)
      obtain ⟨wo, rfl⟩ : ∃ wo : World, wo = wr := ⟨_, rfl⟩
      clear hs hok hm hP hpi hL hKb hcf
      cases o with
      | true =>
        have HG : Hid (growF (true, st, cf, (n : Int)) p.1 = if rndB cf P m = true then ((absS cf m : Int) : Rat) / (P : Rat) * p.1 + ((1 : Int) : Rat) else ((absS cf m : Int) : Rat) / (P : Rat) * p.1) := Lib.hid (by
          unfold growF
          simp only [Int.toNat_natCast, HN.out.1, HOK.out.2.1])
        go_upto_region 11 with fail
        go_wp2_with fail
        rw [hw]
        clear hw
        go_loopw [9, 10, 11] (fun s r i wr => ∃ (j : Nat) (q : Bool), j ≤ m ∧ s = .int .i64 (absS cf j) ∧ r = .bool q ∧ i = .int .i64 j ∧ Hid (rndB cf P j = !q) ∧ Hid (Below wo.heap.size wo wr)) (fun _ _ i _ => m - (intOf i).toNat)
        case atStart => exact ⟨0, true, Nat.zero_le _, rfl, rfl, rfl, Lib.hid rfl, Lib.hid (Below.refl _ _)⟩
        case round =>
          obtain ⟨j, q, hj, rfl, rfl, rfl, HRR2, HBI⟩ := hrel
          clear y0 y1 y2 y3
          obtain ⟨⟨z0, z1, z2, z3⟩, hcf⟩ := HL.out _ HBI.out
          by_cases hl2 : j < m
          · obtain ⟨ac, x, rfl, hb, hx, hc, i1, i2⟩ := hcf.at_ (k := j) (by have := HOK.out.2.1; omega)
            have HX := Lib.hid (el_of hx)
            have hxb := HOK.out.1.2.2.2.2.2 x (List.mem_of_getElem? hx)
            have hsb := absS_bound HOK.out.1.2.2.2.2.2 j
            obtain ⟨S, hS⟩ : ∃ S, absS cf j = S := ⟨_, rfl⟩
            obtain ⟨T, hT⟩ : ∃ T, x.tmod P = T := ⟨_, rfl⟩
            have HTM := Lib.hid (tmod_zero HP0.out hT)
            have hTb : -2147483648 < T ∧ T < 2147483648 := by
              have h1 := tmod_range (x := x) HP0.out
              have h2 := HPB.out
              rw [hT] at h1
              omega
            rw [hS] at hsb ⊢
            have hS1 : S ≤ 32768 := by have := HOK.out.2.2; omega
            have HS := Lib.hid hS
            have S0 : Hid (wr.cell? ⟨(ad.add (k * 4)).block, (ad.add (k * 4)).off + 2, none⟩ = some (.slice (some ac) m cc) ∧ wr.cell? (ac.add j) = some (.int .i64 x)) := Lib.hid ⟨z2, hc⟩
            clear hx hS hcf
            obtain ⟨X, hX⟩ : ∃ X, max x (-x) = X := ⟨_, rfl⟩
            have HE : Hid (absS cf (j + 1) = S + X) := Lib.hid (by unfold absS; rw [HS.out, HX.out]; split <;> omega)
            have hXb : 0 ≤ X ∧ X ≤ 4096 := by omega
            have hp0 : P ≠ 0 := by have := HP0.out; omega
            have xw1 : IntKind.i64.wrap (-x) = -x := IntWalk.i64_in _ (by omega)
            have xw2 : IntKind.i64.wrap (S + X) = S + X := IntWalk.i64_in _ (by omega)
            go_upto_region 14 with fail
            clear z0 z1 z2 z3 hc
            go_region_held3 (fun w' => w'.cell? ⟨(ad.add (k * 4)).block, (ad.add (k * 4)).off + 2, none⟩ = some (.slice (some ac) m cc) ∧ w'.cell? (ac.add j) = some (.int .i64 x)) (exact S0.out) (fail)
            have z2 : wr.drew.cell? ⟨(ad.add (k * 4)).block, (ad.add (k * 4)).off + 2, none⟩ = some (.slice (some ac) m cc) := S0.out.1
            have hc : wr.drew.cell? (ac.add j) = some (.int .i64 x) := S0.out.2
            have HBD := Lib.hid HBI.out.drew
            clear xw1 xw2
            cases q with
            | false =>
              have HE2 : Hid (rndB cf P (j + 1) = !false) := Lib.hid (by unfold rndB; rw [HRR2.out, HX.out]; rfl)
              go_wp2_with fail
              go_roundw
              case rel => exact ⟨j + 1, _, by omega, by rw [HE.out], rfl, by go_num, HE2, HBD⟩
              case measure => simp [intOf]; omega
            | true =>
              by_cases hz : T = 0
              · have HE2 : Hid (rndB cf P (j + 1) = !true) := Lib.hid (by unfold rndB; rw [HRR2.out, HX.out, decide_eq_true (HTM.out.1 hz)]; rfl)
                subst hz
                go_wp2_with fail
                go_roundw
                case rel => exact ⟨j + 1, _, by omega, by rw [HE.out], rfl, by go_num, HE2, HBD⟩
                case measure => simp [intOf]; omega
              · have HE2 : Hid (rndB cf P (j + 1) = !false) := Lib.hid (by unfold rndB; rw [HRR2.out, HX.out, decide_eq_false (fun e => hz (HTM.out.2 e))]; rfl)
                have ht2 : ((T : Int) == 0) = false := by simpa using hz
                go_wp2_with fail
                go_roundw
                case rel => exact ⟨j + 1, _, by omega, by rw [HE.out], rfl, by go_num, HE2, HBD⟩
                case measure => simp [intOf]; omega
          · obtain rfl : m = j := by omega
            have hsb := absS_bound HOK.out.1.2.2.2.2.2 m
            have HGG := HG.out
            obtain ⟨S, hS⟩ : ∃ S, absS cf m = S := ⟨_, rfl⟩
            have hR := HRR2.out
            rw [hS] at hsb HGG ⊢
            rw [hR] at HGG
            have HGR := Lib.hid HGG
            have HRN := Lib.hid hR
            have HSB : Hid (0 ≤ S ∧ S ≤ 32768) := Lib.hid (by have := HOK.out.2.2; omega)
            have HRW := Lib.hid (HR.out.grow HBI.out)
            have HBW2 := Lib.hid (HBW.out.trans (HBI.out.mono (Nat.le_of_lt (HR.out.lt ga rfl).2)))
            clear hS hR HGG hsb hj hl2 z0 z1 hcf HG
            cases q with
            | true =>
              have HR5 := Lib.hid (HRW.out.le (M := K + 3) (by omega))
              rcases Nat.eq_zero_or_pos n with hn0 | hn0
              · have xn0 : ¬ (0 : Int) < (n : Int) := by omega
                have xn1 : decide ((0 : Int) < (n : Int)) = false := decide_eq_false xn0
                go_upto_region 18 with fail
                clear z2 z3 xn0 xn1
                obtain ⟨_, h1, D1, i1, j1, E1, k1, l1, zt, et, hzt, hA⟩ := HR5.out.atW (k := 1) (by simp)
                injection et with et
                injection et with et
                subst et
                obtain ⟨_, h2, D2, i2, j2, E2, k2, l2, zu, eu, hzu, hB⟩ := HR5.out.atW (k := 0) (by simp)
                injection eu with eu
                injection eu with eu
                subst eu
                have hzt' : p.2 = zt := by simpa using hzt
                have hzu' : p.1 = zu := by simpa using hzu
                have HA := Lib.hid hA
                have HB := Lib.hid hB
                obtain ⟨f, hf⟩ : ∃ f : Rat, (S : Rat) / (P : Rat) = f := ⟨_, rfl⟩
                obtain ⟨g, hg⟩ : ∃ g : Rat, f * zu = g := ⟨_, rfl⟩
                obtain ⟨y, hy⟩ : ∃ y : Rat, zt + g = y := ⟨_, rfl⟩
                have HY : Hid (p.2 + (S : Rat) / (P : Rat) * p.1 = y) := Lib.hid (by rw [hzt', hzu', hf, hg, hy])
                have CF : Hid (∀ w1, Calls Try.prog 53 #[.int .i64 S, .int .i64 P] w1 (RetQ w1 f 2)) := Lib.hid fun w1 => hf ▸ r3_Frac S P w1 (by have := HSB.out; unfold I64; omega) (by have h1 := HP0.out; have h2 := HPB.out; unfold I64; omega)
                have CM : Hid (∀ u' w1 b1, Below wr.heap.size wr w1 → RatQ b1 w1 u' f 2 → Calls Try.prog 51 #[u', .agg #[.bool h2, .slice D2 i2 j2, .slice E2 k2 l2]] w1 (RetQ w1 g (2 + (K + 3)))) := Lib.hid fun u' w1 b1 hb hu => by
                  have hk := HKB.out
                  have h := r3_Mul u' _ f zu 2 (K + 3) w1 hu.arg (HB.out w1 hb).1.arg (by decide) (by omega) (by decide) (by omega)
                  rw [hg] at h
                  exact h
                have CA : Hid (∀ u' w1 b1, Below wr.heap.size wr w1 → RatQ b1 w1 u' g (2 + (K + 3)) → Calls Try.prog 28 #[.agg #[.bool h1, .slice D1 i1 j1, .slice E1 k1 l1], u'] w1 (RetQ w1 y (K + 3 + (2 + (K + 3)) + 1))) := Lib.hid fun u' w1 b1 hb hu => by
                  have hk := HKB.out
                  have h := r3_Add _ u' zt g (K + 3) (2 + (K + 3)) w1 (HA.out w1 hb).1.arg hu.arg (by omega) (by omega) (by omega) (by omega)
                  rw [hy] at h
                  exact h
                have HX : Hid ((inxF (ls.take (k + 1))).1 = p.1 ∧ (inxF (ls.take (k + 1))).2 = y) := Lib.hid (by
                  rw [HIN.out]
                  unfold inx1
                  rw [if_pos rfl]
                  refine ⟨rfl, ?_⟩
                  show p.2 + growF (true, st, cf, (n : Int)) p.1 = y
                  rw [HGR.out, ← HY.out]
                  rfl)
                clear hA hB hzt hzu hzt' hzu' hf hg hy
                refine wp_region_grow7 (fun i => Nat.blt i 17) (fun _ => false) (fun w9 => Below wr.heap.size wr w9) (gT [.v (.slice (some ⟨ga, 0, none⟩) 2 2), .v (.int .i64 1), .v (.slice (some ⟨ga, 0, none⟩) 2 2), .v (.int .i64 1), .v (.pointer (some ⟨ga, 3, none⟩)), .v (.agg #[.bool h1, .slice D1 i1 j1, .slice E1 k1 l1]), .v (.int .i64 S), .v (.int .i64 P), .rq f 2, .v (.slice (some ⟨ga, 0, none⟩) 2 2), .v (.int .i64 1), .v (.int .i64 0), .v (.pointer (some ⟨ga, 0, none⟩)), .v (.agg #[.bool h2, .slice D2 i2 j2, .slice E2 k2 l2]), .rq g (2 + (K + 3)), .rq y (K + 3 + (2 + (K + 3)) + 1), .v (.pointer (some ⟨ga, 3, none⟩))]) (fun a b => Below a.heap.size a b) (dT wr.heap.size [.v (.slice (some ⟨ga, 0, none⟩) 2 2), .v (.int .i64 1), .v (.slice (some ⟨ga, 0, none⟩) 2 2), .v (.int .i64 1), .v (.pointer (some ⟨ga, 3, none⟩)), .v (.agg #[.bool h1, .slice D1 i1 j1, .slice E1 k1 l1]), .v (.int .i64 S), .v (.int .i64 P), .rq f 2, .v (.slice (some ⟨ga, 0, none⟩) 2 2), .v (.int .i64 1), .v (.int .i64 0), .v (.pointer (some ⟨ga, 0, none⟩)), .v (.agg #[.bool h2, .slice D2 i2 j2, .slice E2 k2 l2]), .rq g (2 + (K + 3)), .rq y (K + 3 + (2 + (K + 3)) + 1), .v (.pointer (some ⟨ga, 3, none⟩))]) (by kernel_rfl) (by kernel_rfl) (Below.refl _ _).drew (fun j x a b h1 h2 => ⟨below_then h1 h2.1, fun i _ v => dT_keep h2.1 i v, Below.refl _ _, fun w0 h => below_then h h2.1⟩) (fun j v w h => by cases h) ?_ (fun j o _ _ h => by cases h) ?_
                · refine ⟨?_, ?_, ?_, ?_, ?_, ?_, ?_, ?_, ?_, ?_, ?_, ?_, ?_, ?_, ?_, ?_, ?_, trivial⟩
                  all_goals
                    intro vs w9 hp hF
                    have HP := Lib.hid hp
                    clear hp
                    simp [depsB, Region.binds, dT] at hF
                    simp [stL, depsB, Region.binds, Act.put, hF]
                  · (go_wp2_with fail; exact ⟨rfl, Below.refl _ _, nbx rfl⟩)
                  · (go_wp2_with fail; exact ⟨rfl, Below.refl _ _, nbx rfl⟩)
                  · (go_wp2_with fail; exact ⟨rfl, Below.refl _ _, nbx rfl⟩)
                  · (go_wp2_with fail; exact ⟨rfl, Below.refl _ _, nbx rfl⟩)
                  · (go_wp2_with fail; exact ⟨rfl, Below.refl _ _, nbx rfl⟩)
                  · (refine wpList_load_mid rfl 28 _ rfl (ga) (1 * 3) rfl [.bool h1, .slice D1 i1 j1, .slice E1 k1 l1] dsR (HA.out _ HP.out).2 HRR.out.1 HRR.out.2 size_Rat ?_; go_wp2_with fail; exact ⟨rfl, Below.refl _ _, nbx rfl⟩)
                  · (go_wp2_with fail; exact ⟨rfl, Below.refl _ _, nbx rfl⟩)
                  · (go_wp2_with fail; exact ⟨rfl, Below.refl _ _, nbx rfl⟩)
                  · go_wp2_with (go_at_call 53; (with_reducible refine (CF.out _).mono ?_); rintro e1 w1' ⟨v1, rfl, ho, hb1⟩)
                    exact ⟨ho.base HP.out.size, hb1, nbx rfl⟩
                  · (go_wp2_with fail; exact ⟨rfl, Below.refl _ _, nbx rfl⟩)
                  · (go_wp2_with fail; exact ⟨rfl, Below.refl _ _, nbx rfl⟩)
                  · (go_wp2_with fail; exact ⟨rfl, Below.refl _ _, nbx rfl⟩)
                  · (go_wp2_with fail; exact ⟨rfl, Below.refl _ _, nbx rfl⟩)
                  · (refine wpList_load_mid rfl 28 _ rfl (ga) (0 * 3) rfl [.bool h2, .slice D2 i2 j2, .slice E2 k2 l2] dsR (HB.out _ HP.out).2 HRR.out.1 HRR.out.2 size_Rat ?_; go_wp2_with fail; exact ⟨rfl, Below.refl _ _, nbx rfl⟩)
                  · obtain ⟨hq, e13, -⟩ := hF
                    have HQ1 := Lib.hid hq
                    obtain ⟨g5, A5, n5, c5, B5, m5, d5, e5⟩ := hq.form
                    rw [e5] at HQ1
                    simp only [e13, e5]
                    go_wp2_with (go_at_call 51; (with_reducible refine (CM.out _ _ _ HP.out HQ1.out).mono ?_); rintro e1' w1' ⟨v1, rfl, ho, hb1⟩)
                    exact ⟨ho.base HP.out.size, hb1, nbx rfl⟩
                  · obtain ⟨e5', hq⟩ := hF
                    have HQ1 := Lib.hid hq
                    obtain ⟨g5, A5, n5, c5, B5, m5, d5, e5⟩ := hq.form
                    rw [e5] at HQ1
                    simp only [e5', e5]
                    go_wp2_with (go_at_call 28; (with_reducible refine (CA.out _ _ _ HP.out HQ1.out).mono ?_); rintro e1' w1' ⟨v1, rfl, ho, hb1⟩)
                    exact ⟨ho.base HP.out.size, hb1, nbx rfl⟩
                  · (go_wp2_with fail; exact ⟨rfl, Below.refl _ _, nbx rfl⟩)
                intro vs w9 hp hF hpr
                have hq : RatQ wr.heap.size w9 (vs 15) y (K + 3 + (2 + (K + 3)) + 1) := hF 15 (by decide) rfl
                have e16 : vs 16 = .pointer (some ⟨ga, 3, none⟩) := hF 16 (by decide) rfl
                have HQ2 := Lib.hid hq
                obtain ⟨g8, A8, n8, c8, B8, m8, d8, e8⟩ := hq.form
                rw [e8] at HQ2
                have HBE := Lib.hid hp
                clear hF hpr hq hp
                show wpList Try.prog _ _ [_] _ _
                simp [stL, Act.put, e8, e16]
                refine st_q (k := 1) ((HR5.out.grow HBE.out).le (M := K + 3 + (2 + (K + 3)) + 1) (by omega)) (by simp) (HQ2.out.base (Nat.zero_le _)) rfl _ _ rfl rfl rfl ?_
                intro W8 hr8 hg8
                have HR8 : Hid (RowQ ga W8 (.slice (some ⟨ga, 0, none⟩) 2 2) [p.1, y] (K + 3 + (2 + (K + 3)) + 1)) := Lib.hid (by have h := hr8; exact h)
                have HB8 : Hid (Below ga W0 W8) := Lib.hid ((HBW2.out.trans (HBE.out.mono (Nat.le_of_lt (HR5.out.lt ga rfl).2))).grown hg8 (Nat.le_of_lt (Nat.lt_of_lt_of_le (HR5.out.lt ga rfl).2 HBE.out.size)) (fun k e => by injection e with e; omega))
                clear hr8 hg8 HA HB CF CM CA HQ2
                go_wp2_with fail
                go_roundw
                case rel => exact ⟨k + 1, K + 3 + (2 + (K + 3)) + 1, by omega, by go_num, Lib.hid (by have h := HKK.out; have h2 : 2 ^ (k + 1) = 2 ^ k * 2 := Nat.pow_succ ..; omega), by rw [HX.out.1, HX.out.2]; exact HR8, HB8⟩
                case measure => simp [intOf]; omega
              · have xn0 : (0 : Int) < (n : Int) := by omega
                have xn1 : decide ((0 : Int) < (n : Int)) = true := decide_eq_true xn0
                go_upto_region 18 with fail
                clear z2 z3 xn0 xn1
                obtain ⟨_, h1, D1, i1, j1, E1, k1, l1, zt, et, hzt, hA⟩ := HR5.out.atW (k := 1) (by simp)
                injection et with et
                injection et with et
                subst et
                obtain ⟨_, h2, D2, i2, j2, E2, k2, l2, zu, eu, hzu, hB⟩ := HR5.out.atW (k := 0) (by simp)
                injection eu with eu
                injection eu with eu
                subst eu
                have hzt' : p.2 = zt := by simpa using hzt
                have hzu' : p.1 = zu := by simpa using hzu
                have HA := Lib.hid hA
                have HB := Lib.hid hB
                obtain ⟨f, hf⟩ : ∃ f : Rat, (S : Rat) / (P : Rat) = f := ⟨_, rfl⟩
                obtain ⟨g, hg⟩ : ∃ g : Rat, f * zu = g := ⟨_, rfl⟩
                obtain ⟨y, hy⟩ : ∃ y : Rat, zt + g = y := ⟨_, rfl⟩
                have HY : Hid (p.2 + (S : Rat) / (P : Rat) * p.1 = y) := Lib.hid (by rw [hzt', hzu', hf, hg, hy])
                have CF : Hid (∀ w1, Calls Try.prog 53 #[.int .i64 S, .int .i64 P] w1 (RetQ w1 f 2)) := Lib.hid fun w1 => hf ▸ r3_Frac S P w1 (by have := HSB.out; unfold I64; omega) (by have h1 := HP0.out; have h2 := HPB.out; unfold I64; omega)
                have CM : Hid (∀ u' w1 b1, Below wr.heap.size wr w1 → RatQ b1 w1 u' f 2 → Calls Try.prog 51 #[u', .agg #[.bool h2, .slice D2 i2 j2, .slice E2 k2 l2]] w1 (RetQ w1 g (2 + (K + 3)))) := Lib.hid fun u' w1 b1 hb hu => by
                  have hk := HKB.out
                  have h := r3_Mul u' _ f zu 2 (K + 3) w1 hu.arg (HB.out w1 hb).1.arg (by decide) (by omega) (by decide) (by omega)
                  rw [hg] at h
                  exact h
                have CA : Hid (∀ u' w1 b1, Below wr.heap.size wr w1 → RatQ b1 w1 u' g (2 + (K + 3)) → Calls Try.prog 28 #[.agg #[.bool h1, .slice D1 i1 j1, .slice E1 k1 l1], u'] w1 (RetQ w1 y (K + 3 + (2 + (K + 3)) + 1))) := Lib.hid fun u' w1 b1 hb hu => by
                  have hk := HKB.out
                  have h := r3_Add _ u' zt g (K + 3) (2 + (K + 3)) w1 (HA.out w1 hb).1.arg hu.arg (by omega) (by omega) (by omega) (by omega)
                  rw [hy] at h
                  exact h
                have HX : Hid ((inxF (ls.take (k + 1))).1 = p.1 ∧ (inxF (ls.take (k + 1))).2 = y) := Lib.hid (by
                  rw [HIN.out]
                  unfold inx1
                  rw [if_pos rfl]
                  refine ⟨rfl, ?_⟩
                  show p.2 + growF (true, st, cf, (n : Int)) p.1 = y
                  rw [HGR.out, ← HY.out]
                  rfl)
                clear hA hB hzt hzu hzt' hzu' hf hg hy
                refine wp_region_grow7 (fun i => Nat.blt i 17) (fun _ => false) (fun w9 => Below wr.heap.size wr w9) (gT [.v (.slice (some ⟨ga, 0, none⟩) 2 2), .v (.int .i64 1), .v (.slice (some ⟨ga, 0, none⟩) 2 2), .v (.int .i64 1), .v (.pointer (some ⟨ga, 3, none⟩)), .v (.agg #[.bool h1, .slice D1 i1 j1, .slice E1 k1 l1]), .v (.int .i64 S), .v (.int .i64 P), .rq f 2, .v (.slice (some ⟨ga, 0, none⟩) 2 2), .v (.int .i64 1), .v (.int .i64 0), .v (.pointer (some ⟨ga, 0, none⟩)), .v (.agg #[.bool h2, .slice D2 i2 j2, .slice E2 k2 l2]), .rq g (2 + (K + 3)), .rq y (K + 3 + (2 + (K + 3)) + 1), .v (.pointer (some ⟨ga, 3, none⟩))]) (fun a b => Below a.heap.size a b) (dT wr.heap.size [.v (.slice (some ⟨ga, 0, none⟩) 2 2), .v (.int .i64 1), .v (.slice (some ⟨ga, 0, none⟩) 2 2), .v (.int .i64 1), .v (.pointer (some ⟨ga, 3, none⟩)), .v (.agg #[.bool h1, .slice D1 i1 j1, .slice E1 k1 l1]), .v (.int .i64 S), .v (.int .i64 P), .rq f 2, .v (.slice (some ⟨ga, 0, none⟩) 2 2), .v (.int .i64 1), .v (.int .i64 0), .v (.pointer (some ⟨ga, 0, none⟩)), .v (.agg #[.bool h2, .slice D2 i2 j2, .slice E2 k2 l2]), .rq g (2 + (K + 3)), .rq y (K + 3 + (2 + (K + 3)) + 1), .v (.pointer (some ⟨ga, 3, none⟩))]) (by kernel_rfl) (by kernel_rfl) (Below.refl _ _).drew (fun j x a b h1 h2 => ⟨below_then h1 h2.1, fun i _ v => dT_keep h2.1 i v, Below.refl _ _, fun w0 h => below_then h h2.1⟩) (fun j v w h => by cases h) ?_ (fun j o _ _ h => by cases h) ?_
                · refine ⟨?_, ?_, ?_, ?_, ?_, ?_, ?_, ?_, ?_, ?_, ?_, ?_, ?_, ?_, ?_, ?_, ?_, trivial⟩
                  all_goals
                    intro vs w9 hp hF
                    have HP := Lib.hid hp
                    clear hp
                    simp [depsB, Region.binds, dT] at hF
                    simp [stL, depsB, Region.binds, Act.put, hF]
                  · (go_wp2_with fail; exact ⟨rfl, Below.refl _ _, nbx rfl⟩)
                  · (go_wp2_with fail; exact ⟨rfl, Below.refl _ _, nbx rfl⟩)
                  · (go_wp2_with fail; exact ⟨rfl, Below.refl _ _, nbx rfl⟩)
                  · (go_wp2_with fail; exact ⟨rfl, Below.refl _ _, nbx rfl⟩)
                  · (go_wp2_with fail; exact ⟨rfl, Below.refl _ _, nbx rfl⟩)
                  · (refine wpList_load_mid rfl 28 _ rfl (ga) (1 * 3) rfl [.bool h1, .slice D1 i1 j1, .slice E1 k1 l1] dsR (HA.out _ HP.out).2 HRR.out.1 HRR.out.2 size_Rat ?_; go_wp2_with fail; exact ⟨rfl, Below.refl _ _, nbx rfl⟩)
                  · (go_wp2_with fail; exact ⟨rfl, Below.refl _ _, nbx rfl⟩)
                  · (go_wp2_with fail; exact ⟨rfl, Below.refl _ _, nbx rfl⟩)
                  · go_wp2_with (go_at_call 53; (with_reducible refine (CF.out _).mono ?_); rintro e1 w1' ⟨v1, rfl, ho, hb1⟩)
                    exact ⟨ho.base HP.out.size, hb1, nbx rfl⟩
                  · (go_wp2_with fail; exact ⟨rfl, Below.refl _ _, nbx rfl⟩)
                  · (go_wp2_with fail; exact ⟨rfl, Below.refl _ _, nbx rfl⟩)
                  · (go_wp2_with fail; exact ⟨rfl, Below.refl _ _, nbx rfl⟩)
                  · (go_wp2_with fail; exact ⟨rfl, Below.refl _ _, nbx rfl⟩)
                  · (refine wpList_load_mid rfl 28 _ rfl (ga) (0 * 3) rfl [.bool h2, .slice D2 i2 j2, .slice E2 k2 l2] dsR (HB.out _ HP.out).2 HRR.out.1 HRR.out.2 size_Rat ?_; go_wp2_with fail; exact ⟨rfl, Below.refl _ _, nbx rfl⟩)
                  · obtain ⟨hq, e13, -⟩ := hF
                    have HQ1 := Lib.hid hq
                    obtain ⟨g5, A5, n5, c5, B5, m5, d5, e5⟩ := hq.form
                    rw [e5] at HQ1
                    simp only [e13, e5]
                    go_wp2_with (go_at_call 51; (with_reducible refine (CM.out _ _ _ HP.out HQ1.out).mono ?_); rintro e1' w1' ⟨v1, rfl, ho, hb1⟩)
                    exact ⟨ho.base HP.out.size, hb1, nbx rfl⟩
                  · obtain ⟨e5', hq⟩ := hF
                    have HQ1 := Lib.hid hq
                    obtain ⟨g5, A5, n5, c5, B5, m5, d5, e5⟩ := hq.form
                    rw [e5] at HQ1
                    simp only [e5', e5]
                    go_wp2_with (go_at_call 28; (with_reducible refine (CA.out _ _ _ HP.out HQ1.out).mono ?_); rintro e1' w1' ⟨v1, rfl, ho, hb1⟩)
                    exact ⟨ho.base HP.out.size, hb1, nbx rfl⟩
                  · (go_wp2_with fail; exact ⟨rfl, Below.refl _ _, nbx rfl⟩)
                intro vs w9 hp hF hpr
                have hq : RatQ wr.heap.size w9 (vs 15) y (K + 3 + (2 + (K + 3)) + 1) := hF 15 (by decide) rfl
                have e16 : vs 16 = .pointer (some ⟨ga, 3, none⟩) := hF 16 (by decide) rfl
                have HQ2 := Lib.hid hq
                obtain ⟨g8, A8, n8, c8, B8, m8, d8, e8⟩ := hq.form
                rw [e8] at HQ2
                have HBE := Lib.hid hp
                clear hF hpr hq hp
                show wpList Try.prog _ _ [_] _ _
                simp [stL, Act.put, e8, e16]
                refine st_q (k := 1) ((HR5.out.grow HBE.out).le (M := K + 3 + (2 + (K + 3)) + 1) (by omega)) (by simp) (HQ2.out.base (Nat.zero_le _)) rfl _ _ rfl rfl rfl ?_
                intro W8 hr8 hg8
                have HR8 : Hid (RowQ ga W8 (.slice (some ⟨ga, 0, none⟩) 2 2) [p.1, y] (K + 3 + (2 + (K + 3)) + 1)) := Lib.hid (by have h := hr8; exact h)
                have HB8 : Hid (Below ga W0 W8) := Lib.hid ((HBW2.out.trans (HBE.out.mono (Nat.le_of_lt (HR5.out.lt ga rfl).2))).grown hg8 (Nat.le_of_lt (Nat.lt_of_lt_of_le (HR5.out.lt ga rfl).2 HBE.out.size)) (fun k e => by injection e with e; omega))
                clear hr8 hg8 HA HB CF CM CA HQ2
                go_wp2_with fail
                go_roundw
                case rel => exact ⟨k + 1, K + 3 + (2 + (K + 3)) + 1, by omega, by go_num, Lib.hid (by have h := HKK.out; have h2 : 2 ^ (k + 1) = 2 ^ k * 2 := Nat.pow_succ ..; omega), by rw [HX.out.1, HX.out.2]; exact HR8, HB8⟩
                case measure => simp [intOf]; omega
            | false =>
              have hn0 : n ≠ 0 := fun e => by
                have h1 := HN.out.1
                rw [e] at h1
                have h2 := HRN.out
                rw [← h1] at h2
                have h3 := rndB_one cf m
                rw [show (2 : Int) ^ 0 = 1 from rfl] at h2
                rw [h3] at h2
                cases h2
              have xn0 : (0 : Int) < (n : Int) := by omega
              have xn1 : decide ((0 : Int) < (n : Int)) = true := decide_eq_true xn0
              have xn2 : 0 < n := by omega
              have xn3 : decide (0 < n) = true := decide_eq_true xn2
              go_upto_region 17 with fail
              clear z2 z3 xn0 xn1 xn2 xn3
              obtain ⟨_, h1, D1, i1, j1, E1, k1, l1, zt, et, hzt, hA⟩ := HRW.out.atW (k := 1) (by simp)
              injection et with et
              injection et with et
              subst et
              have hzt' : p.2 = zt := by simpa using hzt
              have HA := Lib.hid hA
              obtain ⟨q, hq⟩ : ∃ q : Rat, zt + ((1 : Int) : Rat) = q := ⟨_, rfl⟩
              have HQV : Hid (p.2 + ((1 : Int) : Rat) = q) := Lib.hid (by rw [hzt', hq])
              have CO1 : Hid (∀ w1, Calls Try.prog 38 #[.int .i64 1] w1 (RetQ w1 ((1 : Int) : Rat) 2)) := Lib.hid fun w1 => r3_Of 1 w1 (by unfold I64; omega)
              have CA : Hid (∀ u' w1 b1, Below wr.heap.size wr w1 → RatQ b1 w1 u' ((1 : Int) : Rat) 2 → Calls Try.prog 28 #[.agg #[.bool h1, .slice D1 i1 j1, .slice E1 k1 l1], u'] w1 (RetQ w1 q (K + 2 + 1))) := Lib.hid fun u' w1 b1 hb hu => by
                have hk := HKB.out
                have h1 := HKK.out.2
                have h := r3_Add _ u' zt _ K 2 w1 (HA.out w1 hb).1.arg hu.arg (by omega) (by decide) (by omega) (by decide)
                rw [hq] at h
                exact h
              clear hA hzt hzt' hq
              refine wp_region_grow7 (fun i => Nat.blt i 9) (fun _ => false) (fun w9 => Below wr.heap.size wr w9) (gT [.v (.slice (some ⟨ga, 0, none⟩) 2 2), .v (.int .i64 1), .v (.slice (some ⟨ga, 0, none⟩) 2 2), .v (.int .i64 1), .v (.pointer (some ⟨ga, 3, none⟩)), .v (.agg #[.bool h1, .slice D1 i1 j1, .slice E1 k1 l1]), .rq ((1 : Int) : Rat) 2, .rq q (K + 2 + 1), .v (.pointer (some ⟨ga, 3, none⟩))]) (fun a b => Below a.heap.size a b) (dT wr.heap.size [.v (.slice (some ⟨ga, 0, none⟩) 2 2), .v (.int .i64 1), .v (.slice (some ⟨ga, 0, none⟩) 2 2), .v (.int .i64 1), .v (.pointer (some ⟨ga, 3, none⟩)), .v (.agg #[.bool h1, .slice D1 i1 j1, .slice E1 k1 l1]), .rq ((1 : Int) : Rat) 2, .rq q (K + 2 + 1), .v (.pointer (some ⟨ga, 3, none⟩))]) (by kernel_rfl) (by kernel_rfl) (Below.refl _ _).drew (fun j x a b h1 h2 => ⟨below_then h1 h2.1, fun i _ v => dT_keep h2.1 i v, Below.refl _ _, fun w0 h => below_then h h2.1⟩) (fun j v w h => by cases h) ?_ (fun j o _ _ h => by cases h) ?_
              · refine ⟨?_, ?_, ?_, ?_, ?_, ?_, ?_, ?_, ?_, trivial⟩
                all_goals
                  intro vs w9 hp hF
                  have HP := Lib.hid hp
                  clear hp
                  simp [depsB, Region.binds, dT] at hF
                  simp [stL, depsB, Region.binds, Act.put, hF]
                · (go_wp2_with fail; exact ⟨rfl, Below.refl _ _, nbx rfl⟩)
                · (go_wp2_with fail; exact ⟨rfl, Below.refl _ _, nbx rfl⟩)
                · (go_wp2_with fail; exact ⟨rfl, Below.refl _ _, nbx rfl⟩)
                · (go_wp2_with fail; exact ⟨rfl, Below.refl _ _, nbx rfl⟩)
                · (go_wp2_with fail; exact ⟨rfl, Below.refl _ _, nbx rfl⟩)
                · (refine wpList_load_mid rfl 28 _ rfl (ga) (1 * 3) rfl [.bool h1, .slice D1 i1 j1, .slice E1 k1 l1] dsR (HA.out _ HP.out).2 HRR.out.1 HRR.out.2 size_Rat ?_; go_wp2_with fail; exact ⟨rfl, Below.refl _ _, nbx rfl⟩)
                · go_wp2_with (go_at_call 38; (with_reducible refine (CO1.out _).mono ?_); rintro e1 w1' ⟨v1, rfl, ho, hb1⟩)
                  exact ⟨ho.base HP.out.size, hb1, nbx rfl⟩
                · obtain ⟨e5', hq⟩ := hF
                  have HQ1 := Lib.hid hq
                  obtain ⟨g5, A5, n5, c5, B5, m5, d5, e5⟩ := hq.form
                  rw [e5] at HQ1
                  simp only [e5', e5]
                  go_wp2_with (go_at_call 28; (with_reducible refine (CA.out _ _ _ HP.out HQ1.out).mono ?_); rintro e1' w1' ⟨v1, rfl, ho, hb1⟩)
                  exact ⟨ho.base HP.out.size, hb1, nbx rfl⟩
                · (go_wp2_with fail; exact ⟨rfl, Below.refl _ _, nbx rfl⟩)
              intro vs w9 hp hF hpr
              have hq : RatQ wr.heap.size w9 (vs 7) q (K + 2 + 1) := hF 7 (by decide) rfl
              have e16 : vs 8 = .pointer (some ⟨ga, 3, none⟩) := hF 8 (by decide) rfl
              have HQ2 := Lib.hid hq
              obtain ⟨g8, A8, n8, c8, B8, m8, d8, e8⟩ := hq.form
              rw [e8] at HQ2
              have HBE := Lib.hid hp
              clear hF hpr hq hp
              show wpList Try.prog _ _ [_] _ _
              simp [stL, Act.put, e8, e16]
              refine st_q (k := 1) ((HRW.out.grow HBE.out).le (M := K + 3) (by omega)) (by simp) (HQ2.out.base (Nat.zero_le _)) rfl _ _ rfl rfl rfl ?_
              intro W5 hr5 hg5
              have HR5 : Hid (RowQ ga W5 (.slice (some ⟨ga, 0, none⟩) 2 2) [p.1, q] (K + 3)) := Lib.hid (by have h := hr5; exact h)
              have HB5 : Hid (Below ga W0 W5) := Lib.hid ((HBW2.out.trans (HBE.out.mono (Nat.le_of_lt (HRW.out.lt ga rfl).2))).grown hg5 (Nat.le_of_lt (Nat.lt_of_lt_of_le (HRW.out.lt ga rfl).2 HBE.out.size)) (fun k e => by injection e with e; omega))
              clear hr5 hg5 HA CO1 CA HQ2 e8 e16
              go_upto_region 18 with fail
              obtain ⟨_, h1, D1, i1, j1, E1, k1, l1, zt, et, hzt, hA⟩ := HR5.out.atW (k := 1) (by simp)
              injection et with et
              injection et with et
              subst et
              obtain ⟨_, h2, D2, i2, j2, E2, k2, l2, zu, eu, hzu, hB⟩ := HR5.out.atW (k := 0) (by simp)
              injection eu with eu
              injection eu with eu
              subst eu
              have hzt' : q = zt := by simpa using hzt
              have hzu' : p.1 = zu := by simpa using hzu
              have HA := Lib.hid hA
              have HB := Lib.hid hB
              obtain ⟨f, hf⟩ : ∃ f : Rat, (S : Rat) / (P : Rat) = f := ⟨_, rfl⟩
              obtain ⟨g, hg⟩ : ∃ g : Rat, f * zu = g := ⟨_, rfl⟩
              obtain ⟨y, hy⟩ : ∃ y : Rat, zt + g = y := ⟨_, rfl⟩
              have HY : Hid (q + (S : Rat) / (P : Rat) * p.1 = y) := Lib.hid (by rw [hzt', hzu', hf, hg, hy])
              have CF : Hid (∀ w1, Calls Try.prog 53 #[.int .i64 S, .int .i64 P] w1 (RetQ w1 f 2)) := Lib.hid fun w1 => hf ▸ r3_Frac S P w1 (by have := HSB.out; unfold I64; omega) (by have h1 := HP0.out; have h2 := HPB.out; unfold I64; omega)
              have CM : Hid (∀ u' w1 b1, Below W5.heap.size W5 w1 → RatQ b1 w1 u' f 2 → Calls Try.prog 51 #[u', .agg #[.bool h2, .slice D2 i2 j2, .slice E2 k2 l2]] w1 (RetQ w1 g (2 + (K + 3)))) := Lib.hid fun u' w1 b1 hb hu => by
                have hk := HKB.out
                have h := r3_Mul u' _ f zu 2 (K + 3) w1 hu.arg (HB.out w1 hb).1.arg (by decide) (by omega) (by decide) (by omega)
                rw [hg] at h
                exact h
              have CA : Hid (∀ u' w1 b1, Below W5.heap.size W5 w1 → RatQ b1 w1 u' g (2 + (K + 3)) → Calls Try.prog 28 #[.agg #[.bool h1, .slice D1 i1 j1, .slice E1 k1 l1], u'] w1 (RetQ w1 y (K + 3 + (2 + (K + 3)) + 1))) := Lib.hid fun u' w1 b1 hb hu => by
                have hk := HKB.out
                have h := r3_Add _ u' zt g (K + 3) (2 + (K + 3)) w1 (HA.out w1 hb).1.arg hu.arg (by omega) (by omega) (by omega) (by omega)
                rw [hy] at h
                exact h
              have HX : Hid ((inxF (ls.take (k + 1))).1 = p.1 ∧ (inxF (ls.take (k + 1))).2 = y) := Lib.hid (by
                rw [HIN.out]
                unfold inx1
                rw [if_pos rfl]
                refine ⟨rfl, ?_⟩
                show p.2 + growF (true, st, cf, (n : Int)) p.1 = y
                rw [HGR.out, ← HY.out]
                rw [← HQV.out]
                exact (rat_swap _ _ _))
              clear hA hB hzt hzu hzt' hzu' hf hg hy
              refine wp_region_grow7 (fun i => Nat.blt i 17) (fun _ => false) (fun w9 => Below W5.heap.size W5 w9) (gT [.v (.slice (some ⟨ga, 0, none⟩) 2 2), .v (.int .i64 1), .v (.slice (some ⟨ga, 0, none⟩) 2 2), .v (.int .i64 1), .v (.pointer (some ⟨ga, 3, none⟩)), .v (.agg #[.bool h1, .slice D1 i1 j1, .slice E1 k1 l1]), .v (.int .i64 S), .v (.int .i64 P), .rq f 2, .v (.slice (some ⟨ga, 0, none⟩) 2 2), .v (.int .i64 1), .v (.int .i64 0), .v (.pointer (some ⟨ga, 0, none⟩)), .v (.agg #[.bool h2, .slice D2 i2 j2, .slice E2 k2 l2]), .rq g (2 + (K + 3)), .rq y (K + 3 + (2 + (K + 3)) + 1), .v (.pointer (some ⟨ga, 3, none⟩))]) (fun a b => Below a.heap.size a b) (dT W5.heap.size [.v (.slice (some ⟨ga, 0, none⟩) 2 2), .v (.int .i64 1), .v (.slice (some ⟨ga, 0, none⟩) 2 2), .v (.int .i64 1), .v (.pointer (some ⟨ga, 3, none⟩)), .v (.agg #[.bool h1, .slice D1 i1 j1, .slice E1 k1 l1]), .v (.int .i64 S), .v (.int .i64 P), .rq f 2, .v (.slice (some ⟨ga, 0, none⟩) 2 2), .v (.int .i64 1), .v (.int .i64 0), .v (.pointer (some ⟨ga, 0, none⟩)), .v (.agg #[.bool h2, .slice D2 i2 j2, .slice E2 k2 l2]), .rq g (2 + (K + 3)), .rq y (K + 3 + (2 + (K + 3)) + 1), .v (.pointer (some ⟨ga, 3, none⟩))]) (by kernel_rfl) (by kernel_rfl) (Below.refl _ _).drew (fun j x a b h1 h2 => ⟨below_then h1 h2.1, fun i _ v => dT_keep h2.1 i v, Below.refl _ _, fun w0 h => below_then h h2.1⟩) (fun j v w h => by cases h) ?_ (fun j o _ _ h => by cases h) ?_
              · refine ⟨?_, ?_, ?_, ?_, ?_, ?_, ?_, ?_, ?_, ?_, ?_, ?_, ?_, ?_, ?_, ?_, ?_, trivial⟩
                all_goals
                  intro vs w9 hp hF
                  have HP := Lib.hid hp
                  clear hp
                  simp [depsB, Region.binds, dT] at hF
                  simp [stL, depsB, Region.binds, Act.put, hF]
                · (go_wp2_with fail; exact ⟨rfl, Below.refl _ _, nbx rfl⟩)
                · (go_wp2_with fail; exact ⟨rfl, Below.refl _ _, nbx rfl⟩)
                · (go_wp2_with fail; exact ⟨rfl, Below.refl _ _, nbx rfl⟩)
                · (go_wp2_with fail; exact ⟨rfl, Below.refl _ _, nbx rfl⟩)
                · (go_wp2_with fail; exact ⟨rfl, Below.refl _ _, nbx rfl⟩)
                · (refine wpList_load_mid rfl 28 _ rfl (ga) (1 * 3) rfl [.bool h1, .slice D1 i1 j1, .slice E1 k1 l1] dsR (HA.out _ HP.out).2 HRR.out.1 HRR.out.2 size_Rat ?_; go_wp2_with fail; exact ⟨rfl, Below.refl _ _, nbx rfl⟩)
                · (go_wp2_with fail; exact ⟨rfl, Below.refl _ _, nbx rfl⟩)
                · (go_wp2_with fail; exact ⟨rfl, Below.refl _ _, nbx rfl⟩)
                · go_wp2_with (go_at_call 53; (with_reducible refine (CF.out _).mono ?_); rintro e1 w1' ⟨v1, rfl, ho, hb1⟩)
                  exact ⟨ho.base HP.out.size, hb1, nbx rfl⟩
                · (go_wp2_with fail; exact ⟨rfl, Below.refl _ _, nbx rfl⟩)
                · (go_wp2_with fail; exact ⟨rfl, Below.refl _ _, nbx rfl⟩)
                · (go_wp2_with fail; exact ⟨rfl, Below.refl _ _, nbx rfl⟩)
                · (go_wp2_with fail; exact ⟨rfl, Below.refl _ _, nbx rfl⟩)
                · (refine wpList_load_mid rfl 28 _ rfl (ga) (0 * 3) rfl [.bool h2, .slice D2 i2 j2, .slice E2 k2 l2] dsR (HB.out _ HP.out).2 HRR.out.1 HRR.out.2 size_Rat ?_; go_wp2_with fail; exact ⟨rfl, Below.refl _ _, nbx rfl⟩)
                · obtain ⟨hq, e13, -⟩ := hF
                  have HQ1 := Lib.hid hq
                  obtain ⟨g5, A5, n5, c5, B5, m5, d5, e5⟩ := hq.form
                  rw [e5] at HQ1
                  simp only [e13, e5]
                  go_wp2_with (go_at_call 51; (with_reducible refine (CM.out _ _ _ HP.out HQ1.out).mono ?_); rintro e1' w1' ⟨v1, rfl, ho, hb1⟩)
                  exact ⟨ho.base HP.out.size, hb1, nbx rfl⟩
                · obtain ⟨e5', hq⟩ := hF
                  have HQ1 := Lib.hid hq
                  obtain ⟨g5, A5, n5, c5, B5, m5, d5, e5⟩ := hq.form
                  rw [e5] at HQ1
                  simp only [e5', e5]
                  go_wp2_with (go_at_call 28; (with_reducible refine (CA.out _ _ _ HP.out HQ1.out).mono ?_); rintro e1' w1' ⟨v1, rfl, ho, hb1⟩)
                  exact ⟨ho.base HP.out.size, hb1, nbx rfl⟩
                · (go_wp2_with fail; exact ⟨rfl, Below.refl _ _, nbx rfl⟩)
              intro vs w9 hp hF hpr
              have hq : RatQ W5.heap.size w9 (vs 15) y (K + 3 + (2 + (K + 3)) + 1) := hF 15 (by decide) rfl
              have e16 : vs 16 = .pointer (some ⟨ga, 3, none⟩) := hF 16 (by decide) rfl
              have HQ2 := Lib.hid hq
              obtain ⟨g8, A8, n8, c8, B8, m8, d8, e8⟩ := hq.form
              rw [e8] at HQ2
              have HBE := Lib.hid hp
              clear hF hpr hq hp
              show wpList Try.prog _ _ [_] _ _
              simp [stL, Act.put, e8, e16]
              refine st_q (k := 1) ((HR5.out.grow HBE.out).le (M := K + 3 + (2 + (K + 3)) + 1) (by omega)) (by simp) (HQ2.out.base (Nat.zero_le _)) rfl _ _ rfl rfl rfl ?_
              intro W8 hr8 hg8
              have HR8 : Hid (RowQ ga W8 (.slice (some ⟨ga, 0, none⟩) 2 2) [p.1, y] (K + 3 + (2 + (K + 3)) + 1)) := Lib.hid (by have h := hr8; exact h)
              have HB8 : Hid (Below ga W0 W8) := Lib.hid ((HB5.out.trans (HBE.out.mono (Nat.le_of_lt (HR5.out.lt ga rfl).2))).grown hg8 (Nat.le_of_lt (Nat.lt_of_lt_of_le (HR5.out.lt ga rfl).2 HBE.out.size)) (fun k e => by injection e with e; omega))
              clear hr8 hg8 HA HB CF CM CA HQ2
              go_wp2_with fail
              go_roundw
              case rel => exact ⟨k + 1, K + 3 + (2 + (K + 3)) + 1, by omega, by go_num, Lib.hid (by have h := HKK.out; have h2 : 2 ^ (k + 1) = 2 ^ k * 2 := Nat.pow_succ ..; omega), by rw [HX.out.1, HX.out.2]; exact HR8, HB8⟩
              case measure => simp [intOf]; omega
      | false =>
        have HG : Hid (growF (false, st, cf, (n : Int)) p.2 = if rndB cf P m = true then ((absS cf m : Int) : Rat) / (P : Rat) * p.2 + ((1 : Int) : Rat) else ((absS cf m : Int) : Rat) / (P : Rat) * p.2) := Lib.hid (by
          unfold growF
          simp only [Int.toNat_natCast, HN.out.1, HOK.out.2.1])
        go_upto_region 11 with fail
        go_wp2_with fail
        rw [hw]
        clear hw
        go_loopw [9, 10, 11] (fun s r i wr => ∃ (j : Nat) (q : Bool), j ≤ m ∧ s = .int .i64 (absS cf j) ∧ r = .bool q ∧ i = .int .i64 j ∧ Hid (rndB cf P j = !q) ∧ Hid (Below wo.heap.size wo wr)) (fun _ _ i _ => m - (intOf i).toNat)
        case atStart => exact ⟨0, true, Nat.zero_le _, rfl, rfl, rfl, Lib.hid rfl, Lib.hid (Below.refl _ _)⟩
        case round =>
          obtain ⟨j, q, hj, rfl, rfl, rfl, HRR2, HBI⟩ := hrel
          clear y0 y1 y2 y3
          obtain ⟨⟨z0, z1, z2, z3⟩, hcf⟩ := HL.out _ HBI.out
          by_cases hl2 : j < m
          · obtain ⟨ac, x, rfl, hb, hx, hc, i1, i2⟩ := hcf.at_ (k := j) (by have := HOK.out.2.1; omega)
            have HX := Lib.hid (el_of hx)
            have hxb := HOK.out.1.2.2.2.2.2 x (List.mem_of_getElem? hx)
            have hsb := absS_bound HOK.out.1.2.2.2.2.2 j
            obtain ⟨S, hS⟩ : ∃ S, absS cf j = S := ⟨_, rfl⟩
            obtain ⟨T, hT⟩ : ∃ T, x.tmod P = T := ⟨_, rfl⟩
            have HTM := Lib.hid (tmod_zero HP0.out hT)
            have hTb : -2147483648 < T ∧ T < 2147483648 := by
              have h1 := tmod_range (x := x) HP0.out
              have h2 := HPB.out
              rw [hT] at h1
              omega
            rw [hS] at hsb ⊢
            have hS1 : S ≤ 32768 := by have := HOK.out.2.2; omega
            have HS := Lib.hid hS
            have S0 : Hid (wr.cell? ⟨(ad.add (k * 4)).block, (ad.add (k * 4)).off + 2, none⟩ = some (.slice (some ac) m cc) ∧ wr.cell? (ac.add j) = some (.int .i64 x)) := Lib.hid ⟨z2, hc⟩
            clear hx hS hcf
            obtain ⟨X, hX⟩ : ∃ X, max x (-x) = X := ⟨_, rfl⟩
            have HE : Hid (absS cf (j + 1) = S + X) := Lib.hid (by unfold absS; rw [HS.out, HX.out]; split <;> omega)
            have hXb : 0 ≤ X ∧ X ≤ 4096 := by omega
            have hp0 : P ≠ 0 := by have := HP0.out; omega
            have xw1 : IntKind.i64.wrap (-x) = -x := IntWalk.i64_in _ (by omega)
            have xw2 : IntKind.i64.wrap (S + X) = S + X := IntWalk.i64_in _ (by omega)
            go_upto_region 14 with fail
            clear z0 z1 z2 z3 hc
            go_region_held3 (fun w' => w'.cell? ⟨(ad.add (k * 4)).block, (ad.add (k * 4)).off + 2, none⟩ = some (.slice (some ac) m cc) ∧ w'.cell? (ac.add j) = some (.int .i64 x)) (exact S0.out) (fail)
            have z2 : wr.drew.cell? ⟨(ad.add (k * 4)).block, (ad.add (k * 4)).off + 2, none⟩ = some (.slice (some ac) m cc) := S0.out.1
            have hc : wr.drew.cell? (ac.add j) = some (.int .i64 x) := S0.out.2
            have HBD := Lib.hid HBI.out.drew
            clear xw1 xw2
            cases q with
            | false =>
              have HE2 : Hid (rndB cf P (j + 1) = !false) := Lib.hid (by unfold rndB; rw [HRR2.out, HX.out]; rfl)
              go_wp2_with fail
              go_roundw
              case rel => exact ⟨j + 1, _, by omega, by rw [HE.out], rfl, by go_num, HE2, HBD⟩
              case measure => simp [intOf]; omega
            | true =>
              by_cases hz : T = 0
              · have HE2 : Hid (rndB cf P (j + 1) = !true) := Lib.hid (by unfold rndB; rw [HRR2.out, HX.out, decide_eq_true (HTM.out.1 hz)]; rfl)
                subst hz
                go_wp2_with fail
                go_roundw
                case rel => exact ⟨j + 1, _, by omega, by rw [HE.out], rfl, by go_num, HE2, HBD⟩
                case measure => simp [intOf]; omega
              · have HE2 : Hid (rndB cf P (j + 1) = !false) := Lib.hid (by unfold rndB; rw [HRR2.out, HX.out, decide_eq_false (fun e => hz (HTM.out.2 e))]; rfl)
                have ht2 : ((T : Int) == 0) = false := by simpa using hz
                go_wp2_with fail
                go_roundw
                case rel => exact ⟨j + 1, _, by omega, by rw [HE.out], rfl, by go_num, HE2, HBD⟩
                case measure => simp [intOf]; omega
          · obtain rfl : m = j := by omega
            have hsb := absS_bound HOK.out.1.2.2.2.2.2 m
            have HGG := HG.out
            obtain ⟨S, hS⟩ : ∃ S, absS cf m = S := ⟨_, rfl⟩
            have hR := HRR2.out
            rw [hS] at hsb HGG ⊢
            rw [hR] at HGG
            have HGR := Lib.hid HGG
            have HRN := Lib.hid hR
            have HSB : Hid (0 ≤ S ∧ S ≤ 32768) := Lib.hid (by have := HOK.out.2.2; omega)
            have HRW := Lib.hid (HR.out.grow HBI.out)
            have HBW2 := Lib.hid (HBW.out.trans (HBI.out.mono (Nat.le_of_lt (HR.out.lt ga rfl).2)))
            clear hS hR HGG hsb hj hl2 z0 z1 hcf HG
            cases q with
            | true =>
              have HR5 := Lib.hid (HRW.out.le (M := K + 3) (by omega))
              rcases Nat.eq_zero_or_pos n with hn0 | hn0
              · have xn0 : ¬ (0 : Int) < (n : Int) := by omega
                have xn1 : decide ((0 : Int) < (n : Int)) = false := decide_eq_false xn0
                go_upto_region 18 with fail
                clear z2 z3 xn0 xn1
                obtain ⟨_, h1, D1, i1, j1, E1, k1, l1, zt, et, hzt, hA⟩ := HR5.out.atW (k := 0) (by simp)
                injection et with et
                injection et with et
                subst et
                obtain ⟨_, h2, D2, i2, j2, E2, k2, l2, zu, eu, hzu, hB⟩ := HR5.out.atW (k := 1) (by simp)
                injection eu with eu
                injection eu with eu
                subst eu
                have hzt' : p.1 = zt := by simpa using hzt
                have hzu' : p.2 = zu := by simpa using hzu
                have HA := Lib.hid hA
                have HB := Lib.hid hB
                obtain ⟨f, hf⟩ : ∃ f : Rat, (S : Rat) / (P : Rat) = f := ⟨_, rfl⟩
                obtain ⟨g, hg⟩ : ∃ g : Rat, f * zu = g := ⟨_, rfl⟩
                obtain ⟨y, hy⟩ : ∃ y : Rat, zt + g = y := ⟨_, rfl⟩
                have HY : Hid (p.1 + (S : Rat) / (P : Rat) * p.2 = y) := Lib.hid (by rw [hzt', hzu', hf, hg, hy])
                have CF : Hid (∀ w1, Calls Try.prog 53 #[.int .i64 S, .int .i64 P] w1 (RetQ w1 f 2)) := Lib.hid fun w1 => hf ▸ r3_Frac S P w1 (by have := HSB.out; unfold I64; omega) (by have h1 := HP0.out; have h2 := HPB.out; unfold I64; omega)
                have CM : Hid (∀ u' w1 b1, Below wr.heap.size wr w1 → RatQ b1 w1 u' f 2 → Calls Try.prog 51 #[u', .agg #[.bool h2, .slice D2 i2 j2, .slice E2 k2 l2]] w1 (RetQ w1 g (2 + (K + 3)))) := Lib.hid fun u' w1 b1 hb hu => by
                  have hk := HKB.out
                  have h := r3_Mul u' _ f zu 2 (K + 3) w1 hu.arg (HB.out w1 hb).1.arg (by decide) (by omega) (by decide) (by omega)
                  rw [hg] at h
                  exact h
                have CA : Hid (∀ u' w1 b1, Below wr.heap.size wr w1 → RatQ b1 w1 u' g (2 + (K + 3)) → Calls Try.prog 28 #[.agg #[.bool h1, .slice D1 i1 j1, .slice E1 k1 l1], u'] w1 (RetQ w1 y (K + 3 + (2 + (K + 3)) + 1))) := Lib.hid fun u' w1 b1 hb hu => by
                  have hk := HKB.out
                  have h := r3_Add _ u' zt g (K + 3) (2 + (K + 3)) w1 (HA.out w1 hb).1.arg hu.arg (by omega) (by omega) (by omega) (by omega)
                  rw [hy] at h
                  exact h
                have HX : Hid ((inxF (ls.take (k + 1))).1 = y ∧ (inxF (ls.take (k + 1))).2 = p.2) := Lib.hid (by
                  rw [HIN.out]
                  unfold inx1
                  rw [if_neg (show ¬ (false = true) by decide)]
                  refine ⟨?_, rfl⟩
                  show p.1 + growF (false, st, cf, (n : Int)) p.2 = y
                  rw [HGR.out, ← HY.out]
                  rfl)
                clear hA hB hzt hzu hzt' hzu' hf hg hy
                refine wp_region_grow7 (fun i => Nat.blt i 17) (fun _ => false) (fun w9 => Below wr.heap.size wr w9) (gT [.v (.slice (some ⟨ga, 0, none⟩) 2 2), .v (.int .i64 0), .v (.slice (some ⟨ga, 0, none⟩) 2 2), .v (.int .i64 0), .v (.pointer (some ⟨ga, 0, none⟩)), .v (.agg #[.bool h1, .slice D1 i1 j1, .slice E1 k1 l1]), .v (.int .i64 S), .v (.int .i64 P), .rq f 2, .v (.slice (some ⟨ga, 0, none⟩) 2 2), .v (.int .i64 0), .v (.int .i64 1), .v (.pointer (some ⟨ga, 3, none⟩)), .v (.agg #[.bool h2, .slice D2 i2 j2, .slice E2 k2 l2]), .rq g (2 + (K + 3)), .rq y (K + 3 + (2 + (K + 3)) + 1), .v (.pointer (some ⟨ga, 0, none⟩))]) (fun a b => Below a.heap.size a b) (dT wr.heap.size [.v (.slice (some ⟨ga, 0, none⟩) 2 2), .v (.int .i64 0), .v (.slice (some ⟨ga, 0, none⟩) 2 2), .v (.int .i64 0), .v (.pointer (some ⟨ga, 0, none⟩)), .v (.agg #[.bool h1, .slice D1 i1 j1, .slice E1 k1 l1]), .v (.int .i64 S), .v (.int .i64 P), .rq f 2, .v (.slice (some ⟨ga, 0, none⟩) 2 2), .v (.int .i64 0), .v (.int .i64 1), .v (.pointer (some ⟨ga, 3, none⟩)), .v (.agg #[.bool h2, .slice D2 i2 j2, .slice E2 k2 l2]), .rq g (2 + (K + 3)), .rq y (K + 3 + (2 + (K + 3)) + 1), .v (.pointer (some ⟨ga, 0, none⟩))]) (by kernel_rfl) (by kernel_rfl) (Below.refl _ _).drew (fun j x a b h1 h2 => ⟨below_then h1 h2.1, fun i _ v => dT_keep h2.1 i v, Below.refl _ _, fun w0 h => below_then h h2.1⟩) (fun j v w h => by cases h) ?_ (fun j o _ _ h => by cases h) ?_
                · refine ⟨?_, ?_, ?_, ?_, ?_, ?_, ?_, ?_, ?_, ?_, ?_, ?_, ?_, ?_, ?_, ?_, ?_, trivial⟩
                  all_goals
                    intro vs w9 hp hF
                    have HP := Lib.hid hp
                    clear hp
                    simp [depsB, Region.binds, dT] at hF
                    simp [stL, depsB, Region.binds, Act.put, hF]
                  · (go_wp2_with fail; exact ⟨rfl, Below.refl _ _, nbx rfl⟩)
                  · (go_wp2_with fail; exact ⟨rfl, Below.refl _ _, nbx rfl⟩)
                  · (go_wp2_with fail; exact ⟨rfl, Below.refl _ _, nbx rfl⟩)
                  · (go_wp2_with fail; exact ⟨rfl, Below.refl _ _, nbx rfl⟩)
                  · (go_wp2_with fail; exact ⟨rfl, Below.refl _ _, nbx rfl⟩)
                  · (refine wpList_load_mid rfl 28 _ rfl (ga) (0 * 3) rfl [.bool h1, .slice D1 i1 j1, .slice E1 k1 l1] dsR (HA.out _ HP.out).2 HRR.out.1 HRR.out.2 size_Rat ?_; go_wp2_with fail; exact ⟨rfl, Below.refl _ _, nbx rfl⟩)
                  · (go_wp2_with fail; exact ⟨rfl, Below.refl _ _, nbx rfl⟩)
                  · (go_wp2_with fail; exact ⟨rfl, Below.refl _ _, nbx rfl⟩)
                  · go_wp2_with (go_at_call 53; (with_reducible refine (CF.out _).mono ?_); rintro e1 w1' ⟨v1, rfl, ho, hb1⟩)
                    exact ⟨ho.base HP.out.size, hb1, nbx rfl⟩
                  · (go_wp2_with fail; exact ⟨rfl, Below.refl _ _, nbx rfl⟩)
                  · (go_wp2_with fail; exact ⟨rfl, Below.refl _ _, nbx rfl⟩)
                  · (go_wp2_with fail; exact ⟨rfl, Below.refl _ _, nbx rfl⟩)
                  · (go_wp2_with fail; exact ⟨rfl, Below.refl _ _, nbx rfl⟩)
                  · (refine wpList_load_mid rfl 28 _ rfl (ga) (1 * 3) rfl [.bool h2, .slice D2 i2 j2, .slice E2 k2 l2] dsR (HB.out _ HP.out).2 HRR.out.1 HRR.out.2 size_Rat ?_; go_wp2_with fail; exact ⟨rfl, Below.refl _ _, nbx rfl⟩)
                  · obtain ⟨hq, e13, -⟩ := hF
                    have HQ1 := Lib.hid hq
                    obtain ⟨g5, A5, n5, c5, B5, m5, d5, e5⟩ := hq.form
                    rw [e5] at HQ1
                    simp only [e13, e5]
                    go_wp2_with (go_at_call 51; (with_reducible refine (CM.out _ _ _ HP.out HQ1.out).mono ?_); rintro e1' w1' ⟨v1, rfl, ho, hb1⟩)
                    exact ⟨ho.base HP.out.size, hb1, nbx rfl⟩
                  · obtain ⟨e5', hq⟩ := hF
                    have HQ1 := Lib.hid hq
                    obtain ⟨g5, A5, n5, c5, B5, m5, d5, e5⟩ := hq.form
                    rw [e5] at HQ1
                    simp only [e5', e5]
                    go_wp2_with (go_at_call 28; (with_reducible refine (CA.out _ _ _ HP.out HQ1.out).mono ?_); rintro e1' w1' ⟨v1, rfl, ho, hb1⟩)
                    exact ⟨ho.base HP.out.size, hb1, nbx rfl⟩
                  · (go_wp2_with fail; exact ⟨rfl, Below.refl _ _, nbx rfl⟩)
                intro vs w9 hp hF hpr
                have hq : RatQ wr.heap.size w9 (vs 15) y (K + 3 + (2 + (K + 3)) + 1) := hF 15 (by decide) rfl
                have e16 : vs 16 = .pointer (some ⟨ga, 0, none⟩) := hF 16 (by decide) rfl
                have HQ2 := Lib.hid hq
                obtain ⟨g8, A8, n8, c8, B8, m8, d8, e8⟩ := hq.form
                rw [e8] at HQ2
                have HBE := Lib.hid hp
                clear hF hpr hq hp
                show wpList Try.prog _ _ [_] _ _
                simp [stL, Act.put, e8, e16]
                refine st_q (k := 0) ((HR5.out.grow HBE.out).le (M := K + 3 + (2 + (K + 3)) + 1) (by omega)) (by simp) (HQ2.out.base (Nat.zero_le _)) rfl _ _ rfl rfl rfl ?_
                intro W8 hr8 hg8
                have HR8 : Hid (RowQ ga W8 (.slice (some ⟨ga, 0, none⟩) 2 2) [y, p.2] (K + 3 + (2 + (K + 3)) + 1)) := Lib.hid (by have h := hr8; exact h)
                have HB8 : Hid (Below ga W0 W8) := Lib.hid ((HBW2.out.trans (HBE.out.mono (Nat.le_of_lt (HR5.out.lt ga rfl).2))).grown hg8 (Nat.le_of_lt (Nat.lt_of_lt_of_le (HR5.out.lt ga rfl).2 HBE.out.size)) (fun k e => by injection e with e; omega))
                clear hr8 hg8 HA HB CF CM CA HQ2
                go_wp2_with fail
                go_roundw
                case rel => exact ⟨k + 1, K + 3 + (2 + (K + 3)) + 1, by omega, by go_num, Lib.hid (by have h := HKK.out; have h2 : 2 ^ (k + 1) = 2 ^ k * 2 := Nat.pow_succ ..; omega), by rw [HX.out.1, HX.out.2]; exact HR8, HB8⟩
                case measure => simp [intOf]; omega
              · have xn0 : (0 : Int) < (n : Int) := by omega
                have xn1 : decide ((0 : Int) < (n : Int)) = true := decide_eq_true xn0
                go_upto_region 18 with fail
                clear z2 z3 xn0 xn1
                obtain ⟨_, h1, D1, i1, j1, E1, k1, l1, zt, et, hzt, hA⟩ := HR5.out.atW (k := 0) (by simp)
                injection et with et
                injection et with et
                subst et
                obtain ⟨_, h2, D2, i2, j2, E2, k2, l2, zu, eu, hzu, hB⟩ := HR5.out.atW (k := 1) (by simp)
                injection eu with eu
                injection eu with eu
                subst eu
                have hzt' : p.1 = zt := by simpa using hzt
                have hzu' : p.2 = zu := by simpa using hzu
                have HA := Lib.hid hA
                have HB := Lib.hid hB
                obtain ⟨f, hf⟩ : ∃ f : Rat, (S : Rat) / (P : Rat) = f := ⟨_, rfl⟩
                obtain ⟨g, hg⟩ : ∃ g : Rat, f * zu = g := ⟨_, rfl⟩
                obtain ⟨y, hy⟩ : ∃ y : Rat, zt + g = y := ⟨_, rfl⟩
                have HY : Hid (p.1 + (S : Rat) / (P : Rat) * p.2 = y) := Lib.hid (by rw [hzt', hzu', hf, hg, hy])
                have CF : Hid (∀ w1, Calls Try.prog 53 #[.int .i64 S, .int .i64 P] w1 (RetQ w1 f 2)) := Lib.hid fun w1 => hf ▸ r3_Frac S P w1 (by have := HSB.out; unfold I64; omega) (by have h1 := HP0.out; have h2 := HPB.out; unfold I64; omega)
                have CM : Hid (∀ u' w1 b1, Below wr.heap.size wr w1 → RatQ b1 w1 u' f 2 → Calls Try.prog 51 #[u', .agg #[.bool h2, .slice D2 i2 j2, .slice E2 k2 l2]] w1 (RetQ w1 g (2 + (K + 3)))) := Lib.hid fun u' w1 b1 hb hu => by
                  have hk := HKB.out
                  have h := r3_Mul u' _ f zu 2 (K + 3) w1 hu.arg (HB.out w1 hb).1.arg (by decide) (by omega) (by decide) (by omega)
                  rw [hg] at h
                  exact h
                have CA : Hid (∀ u' w1 b1, Below wr.heap.size wr w1 → RatQ b1 w1 u' g (2 + (K + 3)) → Calls Try.prog 28 #[.agg #[.bool h1, .slice D1 i1 j1, .slice E1 k1 l1], u'] w1 (RetQ w1 y (K + 3 + (2 + (K + 3)) + 1))) := Lib.hid fun u' w1 b1 hb hu => by
                  have hk := HKB.out
                  have h := r3_Add _ u' zt g (K + 3) (2 + (K + 3)) w1 (HA.out w1 hb).1.arg hu.arg (by omega) (by omega) (by omega) (by omega)
                  rw [hy] at h
                  exact h
                have HX : Hid ((inxF (ls.take (k + 1))).1 = y ∧ (inxF (ls.take (k + 1))).2 = p.2) := Lib.hid (by
                  rw [HIN.out]
                  unfold inx1
                  rw [if_neg (show ¬ (false = true) by decide)]
                  refine ⟨?_, rfl⟩
                  show p.1 + growF (false, st, cf, (n : Int)) p.2 = y
                  rw [HGR.out, ← HY.out]
                  rfl)
                clear hA hB hzt hzu hzt' hzu' hf hg hy
                refine wp_region_grow7 (fun i => Nat.blt i 17) (fun _ => false) (fun w9 => Below wr.heap.size wr w9) (gT [.v (.slice (some ⟨ga, 0, none⟩) 2 2), .v (.int .i64 0), .v (.slice (some ⟨ga, 0, none⟩) 2 2), .v (.int .i64 0), .v (.pointer (some ⟨ga, 0, none⟩)), .v (.agg #[.bool h1, .slice D1 i1 j1, .slice E1 k1 l1]), .v (.int .i64 S), .v (.int .i64 P), .rq f 2, .v (.slice (some ⟨ga, 0, none⟩) 2 2), .v (.int .i64 0), .v (.int .i64 1), .v (.pointer (some ⟨ga, 3, none⟩)), .v (.agg #[.bool h2, .slice D2 i2 j2, .slice E2 k2 l2]), .rq g (2 + (K + 3)), .rq y (K + 3 + (2 + (K + 3)) + 1), .v (.pointer (some ⟨ga, 0, none⟩))]) (fun a b => Below a.heap.size a b) (dT wr.heap.size [.v (.slice (some ⟨ga, 0, none⟩) 2 2), .v (.int .i64 0), .v (.slice (some ⟨ga, 0, none⟩) 2 2), .v (.int .i64 0), .v (.pointer (some ⟨ga, 0, none⟩)), .v (.agg #[.bool h1, .slice D1 i1 j1, .slice E1 k1 l1]), .v (.int .i64 S), .v (.int .i64 P), .rq f 2, .v (.slice (some ⟨ga, 0, none⟩) 2 2), .v (.int .i64 0), .v (.int .i64 1), .v (.pointer (some ⟨ga, 3, none⟩)), .v (.agg #[.bool h2, .slice D2 i2 j2, .slice E2 k2 l2]), .rq g (2 + (K + 3)), .rq y (K + 3 + (2 + (K + 3)) + 1), .v (.pointer (some ⟨ga, 0, none⟩))]) (by kernel_rfl) (by kernel_rfl) (Below.refl _ _).drew (fun j x a b h1 h2 => ⟨below_then h1 h2.1, fun i _ v => dT_keep h2.1 i v, Below.refl _ _, fun w0 h => below_then h h2.1⟩) (fun j v w h => by cases h) ?_ (fun j o _ _ h => by cases h) ?_
                · refine ⟨?_, ?_, ?_, ?_, ?_, ?_, ?_, ?_, ?_, ?_, ?_, ?_, ?_, ?_, ?_, ?_, ?_, trivial⟩
                  all_goals
                    intro vs w9 hp hF
                    have HP := Lib.hid hp
                    clear hp
                    simp [depsB, Region.binds, dT] at hF
                    simp [stL, depsB, Region.binds, Act.put, hF]
                  · (go_wp2_with fail; exact ⟨rfl, Below.refl _ _, nbx rfl⟩)
                  · (go_wp2_with fail; exact ⟨rfl, Below.refl _ _, nbx rfl⟩)
                  · (go_wp2_with fail; exact ⟨rfl, Below.refl _ _, nbx rfl⟩)
                  · (go_wp2_with fail; exact ⟨rfl, Below.refl _ _, nbx rfl⟩)
                  · (go_wp2_with fail; exact ⟨rfl, Below.refl _ _, nbx rfl⟩)
                  · (refine wpList_load_mid rfl 28 _ rfl (ga) (0 * 3) rfl [.bool h1, .slice D1 i1 j1, .slice E1 k1 l1] dsR (HA.out _ HP.out).2 HRR.out.1 HRR.out.2 size_Rat ?_; go_wp2_with fail; exact ⟨rfl, Below.refl _ _, nbx rfl⟩)
                  · (go_wp2_with fail; exact ⟨rfl, Below.refl _ _, nbx rfl⟩)
                  · (go_wp2_with fail; exact ⟨rfl, Below.refl _ _, nbx rfl⟩)
                  · go_wp2_with (go_at_call 53; (with_reducible refine (CF.out _).mono ?_); rintro e1 w1' ⟨v1, rfl, ho, hb1⟩)
                    exact ⟨ho.base HP.out.size, hb1, nbx rfl⟩
                  · (go_wp2_with fail; exact ⟨rfl, Below.refl _ _, nbx rfl⟩)
                  · (go_wp2_with fail; exact ⟨rfl, Below.refl _ _, nbx rfl⟩)
                  · (go_wp2_with fail; exact ⟨rfl, Below.refl _ _, nbx rfl⟩)
                  · (go_wp2_with fail; exact ⟨rfl, Below.refl _ _, nbx rfl⟩)
                  · (refine wpList_load_mid rfl 28 _ rfl (ga) (1 * 3) rfl [.bool h2, .slice D2 i2 j2, .slice E2 k2 l2] dsR (HB.out _ HP.out).2 HRR.out.1 HRR.out.2 size_Rat ?_; go_wp2_with fail; exact ⟨rfl, Below.refl _ _, nbx rfl⟩)
                  · obtain ⟨hq, e13, -⟩ := hF
                    have HQ1 := Lib.hid hq
                    obtain ⟨g5, A5, n5, c5, B5, m5, d5, e5⟩ := hq.form
                    rw [e5] at HQ1
                    simp only [e13, e5]
                    go_wp2_with (go_at_call 51; (with_reducible refine (CM.out _ _ _ HP.out HQ1.out).mono ?_); rintro e1' w1' ⟨v1, rfl, ho, hb1⟩)
                    exact ⟨ho.base HP.out.size, hb1, nbx rfl⟩
                  · obtain ⟨e5', hq⟩ := hF
                    have HQ1 := Lib.hid hq
                    obtain ⟨g5, A5, n5, c5, B5, m5, d5, e5⟩ := hq.form
                    rw [e5] at HQ1
                    simp only [e5', e5]
                    go_wp2_with (go_at_call 28; (with_reducible refine (CA.out _ _ _ HP.out HQ1.out).mono ?_); rintro e1' w1' ⟨v1, rfl, ho, hb1⟩)
                    exact ⟨ho.base HP.out.size, hb1, nbx rfl⟩
                  · (go_wp2_with fail; exact ⟨rfl, Below.refl _ _, nbx rfl⟩)
                intro vs w9 hp hF hpr
                have hq : RatQ wr.heap.size w9 (vs 15) y (K + 3 + (2 + (K + 3)) + 1) := hF 15 (by decide) rfl
                have e16 : vs 16 = .pointer (some ⟨ga, 0, none⟩) := hF 16 (by decide) rfl
                have HQ2 := Lib.hid hq
                obtain ⟨g8, A8, n8, c8, B8, m8, d8, e8⟩ := hq.form
                rw [e8] at HQ2
                have HBE := Lib.hid hp
                clear hF hpr hq hp
                show wpList Try.prog _ _ [_] _ _
                simp [stL, Act.put, e8, e16]
                refine st_q (k := 0) ((HR5.out.grow HBE.out).le (M := K + 3 + (2 + (K + 3)) + 1) (by omega)) (by simp) (HQ2.out.base (Nat.zero_le _)) rfl _ _ rfl rfl rfl ?_
                intro W8 hr8 hg8
                have HR8 : Hid (RowQ ga W8 (.slice (some ⟨ga, 0, none⟩) 2 2) [y, p.2] (K + 3 + (2 + (K + 3)) + 1)) := Lib.hid (by have h := hr8; exact h)
                have HB8 : Hid (Below ga W0 W8) := Lib.hid ((HBW2.out.trans (HBE.out.mono (Nat.le_of_lt (HR5.out.lt ga rfl).2))).grown hg8 (Nat.le_of_lt (Nat.lt_of_lt_of_le (HR5.out.lt ga rfl).2 HBE.out.size)) (fun k e => by injection e with e; omega))
                clear hr8 hg8 HA HB CF CM CA HQ2
                go_wp2_with fail
                go_roundw
                case rel => exact ⟨k + 1, K + 3 + (2 + (K + 3)) + 1, by omega, by go_num, Lib.hid (by have h := HKK.out; have h2 : 2 ^ (k + 1) = 2 ^ k * 2 := Nat.pow_succ ..; omega), by rw [HX.out.1, HX.out.2]; exact HR8, HB8⟩
                case measure => simp [intOf]; omega
            | false =>
              have hn0 : n ≠ 0 := fun e => by
                have h1 := HN.out.1
                rw [e] at h1
                have h2 := HRN.out
                rw [← h1] at h2
                have h3 := rndB_one cf m
                rw [show (2 : Int) ^ 0 = 1 from rfl] at h2
                rw [h3] at h2
                cases h2
              have xn0 : (0 : Int) < (n : Int) := by omega
              have xn1 : decide ((0 : Int) < (n : Int)) = true := decide_eq_true xn0
              have xn2 : 0 < n := by omega
              have xn3 : decide (0 < n) = true := decide_eq_true xn2
              go_upto_region 17 with fail
              clear z2 z3 xn0 xn1 xn2 xn3
              obtain ⟨_, h1, D1, i1, j1, E1, k1, l1, zt, et, hzt, hA⟩ := HRW.out.atW (k := 0) (by simp)
              injection et with et
              injection et with et
              subst et
              have hzt' : p.1 = zt := by simpa using hzt
              have HA := Lib.hid hA
              obtain ⟨q, hq⟩ : ∃ q : Rat, zt + ((1 : Int) : Rat) = q := ⟨_, rfl⟩
              have HQV : Hid (p.1 + ((1 : Int) : Rat) = q) := Lib.hid (by rw [hzt', hq])
              have CO1 : Hid (∀ w1, Calls Try.prog 38 #[.int .i64 1] w1 (RetQ w1 ((1 : Int) : Rat) 2)) := Lib.hid fun w1 => r3_Of 1 w1 (by unfold I64; omega)
              have CA : Hid (∀ u' w1 b1, Below wr.heap.size wr w1 → RatQ b1 w1 u' ((1 : Int) : Rat) 2 → Calls Try.prog 28 #[.agg #[.bool h1, .slice D1 i1 j1, .slice E1 k1 l1], u'] w1 (RetQ w1 q (K + 2 + 1))) := Lib.hid fun u' w1 b1 hb hu => by
                have hk := HKB.out
                have h1 := HKK.out.2
                have h := r3_Add _ u' zt _ K 2 w1 (HA.out w1 hb).1.arg hu.arg (by omega) (by decide) (by omega) (by decide)
                rw [hq] at h
                exact h
              clear hA hzt hzt' hq
              refine wp_region_grow7 (fun i => Nat.blt i 9) (fun _ => false) (fun w9 => Below wr.heap.size wr w9) (gT [.v (.slice (some ⟨ga, 0, none⟩) 2 2), .v (.int .i64 0), .v (.slice (some ⟨ga, 0, none⟩) 2 2), .v (.int .i64 0), .v (.pointer (some ⟨ga, 0, none⟩)), .v (.agg #[.bool h1, .slice D1 i1 j1, .slice E1 k1 l1]), .rq ((1 : Int) : Rat) 2, .rq q (K + 2 + 1), .v (.pointer (some ⟨ga, 0, none⟩))]) (fun a b => Below a.heap.size a b) (dT wr.heap.size [.v (.slice (some ⟨ga, 0, none⟩) 2 2), .v (.int .i64 0), .v (.slice (some ⟨ga, 0, none⟩) 2 2), .v (.int .i64 0), .v (.pointer (some ⟨ga, 0, none⟩)), .v (.agg #[.bool h1, .slice D1 i1 j1, .slice E1 k1 l1]), .rq ((1 : Int) : Rat) 2, .rq q (K + 2 + 1), .v (.pointer (some ⟨ga, 0, none⟩))]) (by kernel_rfl) (by kernel_rfl) (Below.refl _ _).drew (fun j x a b h1 h2 => ⟨below_then h1 h2.1, fun i _ v => dT_keep h2.1 i v, Below.refl _ _, fun w0 h => below_then h h2.1⟩) (fun j v w h => by cases h) ?_ (fun j o _ _ h => by cases h) ?_
              · refine ⟨?_, ?_, ?_, ?_, ?_, ?_, ?_, ?_, ?_, trivial⟩
                all_goals
                  intro vs w9 hp hF
                  have HP := Lib.hid hp
                  clear hp
                  simp [depsB, Region.binds, dT] at hF
                  simp [stL, depsB, Region.binds, Act.put, hF]
                · (go_wp2_with fail; exact ⟨rfl, Below.refl _ _, nbx rfl⟩)
                · (go_wp2_with fail; exact ⟨rfl, Below.refl _ _, nbx rfl⟩)
                · (go_wp2_with fail; exact ⟨rfl, Below.refl _ _, nbx rfl⟩)
                · (go_wp2_with fail; exact ⟨rfl, Below.refl _ _, nbx rfl⟩)
                · (go_wp2_with fail; exact ⟨rfl, Below.refl _ _, nbx rfl⟩)
                · (refine wpList_load_mid rfl 28 _ rfl (ga) (0 * 3) rfl [.bool h1, .slice D1 i1 j1, .slice E1 k1 l1] dsR (HA.out _ HP.out).2 HRR.out.1 HRR.out.2 size_Rat ?_; go_wp2_with fail; exact ⟨rfl, Below.refl _ _, nbx rfl⟩)
                · go_wp2_with (go_at_call 38; (with_reducible refine (CO1.out _).mono ?_); rintro e1 w1' ⟨v1, rfl, ho, hb1⟩)
                  exact ⟨ho.base HP.out.size, hb1, nbx rfl⟩
                · obtain ⟨e5', hq⟩ := hF
                  have HQ1 := Lib.hid hq
                  obtain ⟨g5, A5, n5, c5, B5, m5, d5, e5⟩ := hq.form
                  rw [e5] at HQ1
                  simp only [e5', e5]
                  go_wp2_with (go_at_call 28; (with_reducible refine (CA.out _ _ _ HP.out HQ1.out).mono ?_); rintro e1' w1' ⟨v1, rfl, ho, hb1⟩)
                  exact ⟨ho.base HP.out.size, hb1, nbx rfl⟩
                · (go_wp2_with fail; exact ⟨rfl, Below.refl _ _, nbx rfl⟩)
              intro vs w9 hp hF hpr
              have hq : RatQ wr.heap.size w9 (vs 7) q (K + 2 + 1) := hF 7 (by decide) rfl
              have e16 : vs 8 = .pointer (some ⟨ga, 0, none⟩) := hF 8 (by decide) rfl
              have HQ2 := Lib.hid hq
              obtain ⟨g8, A8, n8, c8, B8, m8, d8, e8⟩ := hq.form
              rw [e8] at HQ2
              have HBE := Lib.hid hp
              clear hF hpr hq hp
              show wpList Try.prog _ _ [_] _ _
              simp [stL, Act.put, e8, e16]
              refine st_q (k := 0) ((HRW.out.grow HBE.out).le (M := K + 3) (by omega)) (by simp) (HQ2.out.base (Nat.zero_le _)) rfl _ _ rfl rfl rfl ?_
              intro W5 hr5 hg5
              have HR5 : Hid (RowQ ga W5 (.slice (some ⟨ga, 0, none⟩) 2 2) [q, p.2] (K + 3)) := Lib.hid (by have h := hr5; exact h)
              have HB5 : Hid (Below ga W0 W5) := Lib.hid ((HBW2.out.trans (HBE.out.mono (Nat.le_of_lt (HRW.out.lt ga rfl).2))).grown hg5 (Nat.le_of_lt (Nat.lt_of_lt_of_le (HRW.out.lt ga rfl).2 HBE.out.size)) (fun k e => by injection e with e; omega))
              clear hr5 hg5 HA CO1 CA HQ2 e8 e16
              go_upto_region 18 with fail
              obtain ⟨_, h1, D1, i1, j1, E1, k1, l1, zt, et, hzt, hA⟩ := HR5.out.atW (k := 0) (by simp)
              injection et with et
              injection et with et
              subst et
              obtain ⟨_, h2, D2, i2, j2, E2, k2, l2, zu, eu, hzu, hB⟩ := HR5.out.atW (k := 1) (by simp)
              injection eu with eu
              injection eu with eu
              subst eu
              have hzt' : q = zt := by simpa using hzt
              have hzu' : p.2 = zu := by simpa using hzu
              have HA := Lib.hid hA
              have HB := Lib.hid hB
              obtain ⟨f, hf⟩ : ∃ f : Rat, (S : Rat) / (P : Rat) = f := ⟨_, rfl⟩
              obtain ⟨g, hg⟩ : ∃ g : Rat, f * zu = g := ⟨_, rfl⟩
              obtain ⟨y, hy⟩ : ∃ y : Rat, zt + g = y := ⟨_, rfl⟩
              have HY : Hid (q + (S : Rat) / (P : Rat) * p.2 = y) := Lib.hid (by rw [hzt', hzu', hf, hg, hy])
              have CF : Hid (∀ w1, Calls Try.prog 53 #[.int .i64 S, .int .i64 P] w1 (RetQ w1 f 2)) := Lib.hid fun w1 => hf ▸ r3_Frac S P w1 (by have := HSB.out; unfold I64; omega) (by have h1 := HP0.out; have h2 := HPB.out; unfold I64; omega)
              have CM : Hid (∀ u' w1 b1, Below W5.heap.size W5 w1 → RatQ b1 w1 u' f 2 → Calls Try.prog 51 #[u', .agg #[.bool h2, .slice D2 i2 j2, .slice E2 k2 l2]] w1 (RetQ w1 g (2 + (K + 3)))) := Lib.hid fun u' w1 b1 hb hu => by
                have hk := HKB.out
                have h := r3_Mul u' _ f zu 2 (K + 3) w1 hu.arg (HB.out w1 hb).1.arg (by decide) (by omega) (by decide) (by omega)
                rw [hg] at h
                exact h
              have CA : Hid (∀ u' w1 b1, Below W5.heap.size W5 w1 → RatQ b1 w1 u' g (2 + (K + 3)) → Calls Try.prog 28 #[.agg #[.bool h1, .slice D1 i1 j1, .slice E1 k1 l1], u'] w1 (RetQ w1 y (K + 3 + (2 + (K + 3)) + 1))) := Lib.hid fun u' w1 b1 hb hu => by
                have hk := HKB.out
                have h := r3_Add _ u' zt g (K + 3) (2 + (K + 3)) w1 (HA.out w1 hb).1.arg hu.arg (by omega) (by omega) (by omega) (by omega)
                rw [hy] at h
                exact h
              have HX : Hid ((inxF (ls.take (k + 1))).1 = y ∧ (inxF (ls.take (k + 1))).2 = p.2) := Lib.hid (by
                rw [HIN.out]
                unfold inx1
                rw [if_neg (show ¬ (false = true) by decide)]
                refine ⟨?_, rfl⟩
                show p.1 + growF (false, st, cf, (n : Int)) p.2 = y
                rw [HGR.out, ← HY.out]
                rw [← HQV.out]
                exact (rat_swap _ _ _))
              clear hA hB hzt hzu hzt' hzu' hf hg hy
              refine wp_region_grow7 (fun i => Nat.blt i 17) (fun _ => false) (fun w9 => Below W5.heap.size W5 w9) (gT [.v (.slice (some ⟨ga, 0, none⟩) 2 2), .v (.int .i64 0), .v (.slice (some ⟨ga, 0, none⟩) 2 2), .v (.int .i64 0), .v (.pointer (some ⟨ga, 0, none⟩)), .v (.agg #[.bool h1, .slice D1 i1 j1, .slice E1 k1 l1]), .v (.int .i64 S), .v (.int .i64 P), .rq f 2, .v (.slice (some ⟨ga, 0, none⟩) 2 2), .v (.int .i64 0), .v (.int .i64 1), .v (.pointer (some ⟨ga, 3, none⟩)), .v (.agg #[.bool h2, .slice D2 i2 j2, .slice E2 k2 l2]), .rq g (2 + (K + 3)), .rq y (K + 3 + (2 + (K + 3)) + 1), .v (.pointer (some ⟨ga, 0, none⟩))]) (fun a b => Below a.heap.size a b) (dT W5.heap.size [.v (.slice (some ⟨ga, 0, none⟩) 2 2), .v (.int .i64 0), .v (.slice (some ⟨ga, 0, none⟩) 2 2), .v (.int .i64 0), .v (.pointer (some ⟨ga, 0, none⟩)), .v (.agg #[.bool h1, .slice D1 i1 j1, .slice E1 k1 l1]), .v (.int .i64 S), .v (.int .i64 P), .rq f 2, .v (.slice (some ⟨ga, 0, none⟩) 2 2), .v (.int .i64 0), .v (.int .i64 1), .v (.pointer (some ⟨ga, 3, none⟩)), .v (.agg #[.bool h2, .slice D2 i2 j2, .slice E2 k2 l2]), .rq g (2 + (K + 3)), .rq y (K + 3 + (2 + (K + 3)) + 1), .v (.pointer (some ⟨ga, 0, none⟩))]) (by kernel_rfl) (by kernel_rfl) (Below.refl _ _).drew (fun j x a b h1 h2 => ⟨below_then h1 h2.1, fun i _ v => dT_keep h2.1 i v, Below.refl _ _, fun w0 h => below_then h h2.1⟩) (fun j v w h => by cases h) ?_ (fun j o _ _ h => by cases h) ?_
              · refine ⟨?_, ?_, ?_, ?_, ?_, ?_, ?_, ?_, ?_, ?_, ?_, ?_, ?_, ?_, ?_, ?_, ?_, trivial⟩
                all_goals
                  intro vs w9 hp hF
                  have HP := Lib.hid hp
                  clear hp
                  simp [depsB, Region.binds, dT] at hF
                  simp [stL, depsB, Region.binds, Act.put, hF]
                · (go_wp2_with fail; exact ⟨rfl, Below.refl _ _, nbx rfl⟩)
                · (go_wp2_with fail; exact ⟨rfl, Below.refl _ _, nbx rfl⟩)
                · (go_wp2_with fail; exact ⟨rfl, Below.refl _ _, nbx rfl⟩)
                · (go_wp2_with fail; exact ⟨rfl, Below.refl _ _, nbx rfl⟩)
                · (go_wp2_with fail; exact ⟨rfl, Below.refl _ _, nbx rfl⟩)
                · (refine wpList_load_mid rfl 28 _ rfl (ga) (0 * 3) rfl [.bool h1, .slice D1 i1 j1, .slice E1 k1 l1] dsR (HA.out _ HP.out).2 HRR.out.1 HRR.out.2 size_Rat ?_; go_wp2_with fail; exact ⟨rfl, Below.refl _ _, nbx rfl⟩)
                · (go_wp2_with fail; exact ⟨rfl, Below.refl _ _, nbx rfl⟩)
                · (go_wp2_with fail; exact ⟨rfl, Below.refl _ _, nbx rfl⟩)
                · go_wp2_with (go_at_call 53; (with_reducible refine (CF.out _).mono ?_); rintro e1 w1' ⟨v1, rfl, ho, hb1⟩)
                  exact ⟨ho.base HP.out.size, hb1, nbx rfl⟩
                · (go_wp2_with fail; exact ⟨rfl, Below.refl _ _, nbx rfl⟩)
                · (go_wp2_with fail; exact ⟨rfl, Below.refl _ _, nbx rfl⟩)
                · (go_wp2_with fail; exact ⟨rfl, Below.refl _ _, nbx rfl⟩)
                · (go_wp2_with fail; exact ⟨rfl, Below.refl _ _, nbx rfl⟩)
                · (refine wpList_load_mid rfl 28 _ rfl (ga) (1 * 3) rfl [.bool h2, .slice D2 i2 j2, .slice E2 k2 l2] dsR (HB.out _ HP.out).2 HRR.out.1 HRR.out.2 size_Rat ?_; go_wp2_with fail; exact ⟨rfl, Below.refl _ _, nbx rfl⟩)
                · obtain ⟨hq, e13, -⟩ := hF
                  have HQ1 := Lib.hid hq
                  obtain ⟨g5, A5, n5, c5, B5, m5, d5, e5⟩ := hq.form
                  rw [e5] at HQ1
                  simp only [e13, e5]
                  go_wp2_with (go_at_call 51; (with_reducible refine (CM.out _ _ _ HP.out HQ1.out).mono ?_); rintro e1' w1' ⟨v1, rfl, ho, hb1⟩)
                  exact ⟨ho.base HP.out.size, hb1, nbx rfl⟩
                · obtain ⟨e5', hq⟩ := hF
                  have HQ1 := Lib.hid hq
                  obtain ⟨g5, A5, n5, c5, B5, m5, d5, e5⟩ := hq.form
                  rw [e5] at HQ1
                  simp only [e5', e5]
                  go_wp2_with (go_at_call 28; (with_reducible refine (CA.out _ _ _ HP.out HQ1.out).mono ?_); rintro e1' w1' ⟨v1, rfl, ho, hb1⟩)
                  exact ⟨ho.base HP.out.size, hb1, nbx rfl⟩
                · (go_wp2_with fail; exact ⟨rfl, Below.refl _ _, nbx rfl⟩)
              intro vs w9 hp hF hpr
              have hq : RatQ W5.heap.size w9 (vs 15) y (K + 3 + (2 + (K + 3)) + 1) := hF 15 (by decide) rfl
              have e16 : vs 16 = .pointer (some ⟨ga, 0, none⟩) := hF 16 (by decide) rfl
              have HQ2 := Lib.hid hq
              obtain ⟨g8, A8, n8, c8, B8, m8, d8, e8⟩ := hq.form
              rw [e8] at HQ2
              have HBE := Lib.hid hp
              clear hF hpr hq hp
              show wpList Try.prog _ _ [_] _ _
              simp [stL, Act.put, e8, e16]
              refine st_q (k := 0) ((HR5.out.grow HBE.out).le (M := K + 3 + (2 + (K + 3)) + 1) (by omega)) (by simp) (HQ2.out.base (Nat.zero_le _)) rfl _ _ rfl rfl rfl ?_
              intro W8 hr8 hg8
              have HR8 : Hid (RowQ ga W8 (.slice (some ⟨ga, 0, none⟩) 2 2) [y, p.2] (K + 3 + (2 + (K + 3)) + 1)) := Lib.hid (by have h := hr8; exact h)
              have HB8 : Hid (Below ga W0 W8) := Lib.hid ((HB5.out.trans (HBE.out.mono (Nat.le_of_lt (HR5.out.lt ga rfl).2))).grown hg8 (Nat.le_of_lt (Nat.lt_of_lt_of_le (HR5.out.lt ga rfl).2 HBE.out.size)) (fun k e => by injection e with e; omega))
              clear hr8 hg8 HA HB CF CM CA HQ2
              go_wp2_with fail
              go_roundw
              case rel => exact ⟨k + 1, K + 3 + (2 + (K + 3)) + 1, by omega, by go_num, Lib.hid (by have h := HKK.out; have h2 : 2 ^ (k + 1) = 2 ^ k * 2 := Nat.pow_succ ..; omega), by rw [HX.out.1, HX.out.2]; exact HR8, HB8⟩
              case measure => simp [intOf]; omega
    · obtain rfl : ls.length = k := by omega
      have HFP : Hid (inxF ls = p) := Lib.hid (by have h := HPP.out; rwa [List.take_length] at h)
      have hKb : K ≤ 45056 := by
        have h1 := HKK.out.1
        have h2 : 2 ^ ls.length ≤ 2 ^ 12 := Nat.pow_le_pow_right (by decide) HLF.out.1
        omega
      have HKB := Lib.hid hKb
      obtain ⟨_, g1, A1, n1, c1, B1, m1, d1, z1, e1, hz1, hA⟩ := HR.out.atW (k := 0) (by simp)
      injection e1 with e1
      injection e1 with e1
      subst e1
      obtain ⟨_, g2, A2, n2, c2, B2, m2, d2, z2, e2, hz2, hB⟩ := HR.out.atW (k := 1) (by simp)
      injection e2 with e2
      injection e2 with e2
      subst e2
      have hz1 : p.1 = z1 := by simpa using hz1
      have hz2 : p.2 = z2 := by simpa using hz2
      subst hz1 hz2
      have hg := HGA.out
      have hC : InyC w.heap.size w ga [.bool g1, .slice A1 n1 c1, .slice B1 m1 d1] [.bool g2, .slice A2 n2 c2, .slice B2 m2 d2] p K wr := ⟨HLW.out, ⟨[.bool false, .slice none 0 0, .slice none 0 0], (HA0.out.2.1.block (HBW.out.block w.heap.size (by omega)) HBW.out.size), rfl⟩, ⟨[.bool false, .slice none 0 0, .slice none 0 0], (HA0.out.2.2.1.block (HBW.out.block (w.heap.size + 1) (by omega)) HBW.out.size), rfl⟩, ⟨HA0.out.2.2.2.1.under HBW.out (by omega), HA0.out.2.2.2.2.under HBW.out (by omega)⟩, ⟨hg, (HR.out.lt ga rfl).2⟩, ⟨(hA wr (Below.refl _ _)).2, (hB wr (Below.refl _ _)).2⟩, (hA wr (Below.refl _ _)).1, (hB wr (Below.refl _ _)).1⟩
      have HC := Lib.hid hC
      clear hz1 hz2 hA hB hg hC hKb HR HBW HLW
      go_upto_region 19 with fail
      refine wp_region_grow 9 (InyC w.heap.size w ga [.bool g1, .slice A1 n1 c1, .slice B1 m1 d1] [.bool g2, .slice A2 n2 c2, .slice B2 m2 d2] p K) (InyG w.heap.size w ga [.bool g1, .slice A1 n1 c1, .slice B1 m1 d1] [.bool g2, .slice A2 n2 c2, .slice B2 m2 d2] p K) (InyF w.heap.size (.slice (some ⟨ga, 0, none⟩) 2 2) ga [.bool g1, .slice A1 n1 c1, .slice B1 m1 d1] [.bool g2, .slice A2 n2 c2, .slice B2 m2 d2]) (by kernel_rfl) (by kernel_rfl) HC.out.drew (fun a b h1 h2 => ⟨h2.1, fun i _ v => InyF_keep h2 i v⟩) ?_ ?_
      · refine ⟨?_, ?_, ?_, ?_, ?_, ?_, ?_, ?_, ?_, trivial⟩
        all_goals
          intro vs w9 hp hF
          have HP := Lib.hid hp
          clear hp
          simp [depsB, Region.binds, InyF] at hF
          simp [stL, depsB, Region.binds, Act.put, hF]
        · go_wp2_with fail
          exact ⟨rfl, HP.out.stay⟩
        · go_wp2_with fail
          exact ⟨rfl, HP.out.stay⟩
        · refine wpList_load_mid rfl 28 _ rfl ga 0 rfl [.bool g1, .slice A1 n1 c1, .slice B1 m1 d1] dsR HP.out.2.2.2.2.2.1.1 HRR.out.1 HRR.out.2 size_Rat ?_
          go_wp2_with fail
          exact ⟨rfl, HP.out.stay⟩
        · go_wp2_with fail
          exact ⟨rfl, HP.out.stay⟩
        · go_wp2_with fail
          exact ⟨rfl, HP.out.stay⟩
        · refine wpList_load_mid rfl 28 _ rfl ga 3 rfl [.bool g2, .slice A2 n2 c2, .slice B2 m2 d2] dsR HP.out.2.2.2.2.2.1.2 HRR.out.1 HRR.out.2 size_Rat ?_
          go_wp2_with fail
          exact ⟨rfl, HP.out.stay⟩
        · obtain ⟨xs, hx, hl⟩ := HP.out.2.1
          match xs, hl with
          | [x0, x1, x2], _ =>
            refine wp_stT rfl 28 _ _ rfl (w.heap.size) 0 [_, _, _] rfl rfl size_Rat rfl hx (Nat.le_refl _) rfl ?_
            intro W9 c9 g9 t9
            go_wp2_with fail
            first
              | exact ⟨⟨undef, c9⟩, HP.out.st1 rfl c9 g9 t9⟩
              | exact ⟨c9, HP.out.st1 rfl c9 g9 t9⟩
        · obtain ⟨xs, hx, hl⟩ := HP.out.2.2.1
          match xs, hl with
          | [x0, x1, x2], _ =>
            refine wp_stT rfl 28 _ _ rfl (w.heap.size + 1) 0 [_, _, _] rfl rfl size_Rat rfl hx (Nat.le_refl _) rfl ?_
            intro W9 c9 g9 t9
            go_wp2_with fail
            first
              | exact ⟨⟨undef, c9⟩, HP.out.st2 rfl c9 g9 t9⟩
              | exact ⟨c9, HP.out.st2 rfl c9 g9 t9⟩
        · go_wp2_with fail
          exact ⟨rfl, HP.out.stay⟩
      intro vs w9 hp hF
      have q1 : Box w9 w.heap.size [.bool g1, .slice A1 n1 c1, .slice B1 m1 d1] := hF 6 (by decide)
      have q2 : Box w9 (w.heap.size + 1) [.bool g2, .slice A2 n2 c2, .slice B2 m2 d2] := hF 7 (by decide)
      have e8 : vs 8 = .int .i64 0 := hF 8 (by decide)
      have HP := Lib.hid hp
      clear hp hF
      show wpList Try.prog _ _ [] _ _
      simp [stL, Act.put, e8]
      go_wp2_with fail
      refine bodyPost_ret (resCCT rfl _ _ w9 rfl rfl (res_box 28 q1 dsR HRR.out.1 HRR.out.2 size_Rat) (res_box 28 q2 dsR HRR.out.1 HRR.out.2 size_Rat)) rfl ?_
      rw [HFP.out]
      have hkb := HKB.out
      exact ⟨_, _, rfl, HP.out.2.2.2.2.2.2.1.arg.le (by omega), HP.out.2.2.2.2.2.2.2.arg.le (by omega), HP.out.1⟩
end Go.Proofs.Ytmdfgidejdiiiaa
