/- Several texts in one: I1 Ql E11 E12. -/
import Derived.Test.YtdiflpbioohddaaDoortAtoV1
import Derived.Maps.AppendAt
import Derived.Deep.RegionHeld3
import Derived.Test.YtdiflpbioohddaaDoortPltoLa
import Derived.Test.YtdiflpbioohddaaDoortUtoU3
import Derived.Test.YtdiflpbioohddaaDoortE8toE10
set_option linter.unusedVariables false
set_option linter.unusedSimpArgs false
section
namespace Go.Proofs.YtdiflpbioohddaaDoor
open Go.RowKit
def OwnD (base : Nat) (w : World) (g m : Nat) (ll : List (List Int)) : Prop :=
 ∃ vs : List Value, w.ownsRow base 25 1 (.slice (some ⟨g, 0, none⟩) m m) m vs ∧ vs.length = ll.length ∧ ll.length = m ∧ base ≤ g ∧ (∀ (k : Nat) v l, vs[k]? = some v → ll[k]? = some l → Own (g + 1) w v l) ∧
  (∀ (j k : Nat) u v, j ≠ k → vs[j]? = some u → vs[k]? = some v → u.ownBlock = none ∨ u.ownBlock ≠ v.ownBlock)
theorem OwnD.own {base : Nat} {w : World} {g m : Nat} {ll : List (List Int)} (h : OwnD base w g m ll) : OwnL base w g m ll := by
 obtain ⟨vs, h1, h2, h3, h4, h5, _⟩ := h
 exact ⟨vs, h1, h2, h3, h4, h5⟩
theorem mk_intD {ops : Array Oper} {rest : List Oper} {o : Oper} {a : Act} {Q : Exit → Act → World → Prop} {w : World} (hg : o.guard = none) (s c : Operand) (hop : o.op = Op.makeSlice 74 s c)
  (n : Nat) {N : Int} (hs : a.eval s = .int .i64 N) (hc : a.eval c = .int .i64 N) (hN : N = (n : Int)) (hn : n ≤ 100000000)
  (h : ∀ w', OwnD w.heap.size w' w.heap.size n (List.replicate n []) → Below w.heap.size w w' → wpList Tryd.prog ops Q rest (a.put o.dst (.slice (some ⟨w.heap.size, 0, none⟩) n n)) w') :
  wpList Tryd.prog ops Q (o :: rest) a w := by
 subst hN
 obtain ⟨i0, hi, hz0, hz1, hz2⟩ := info_parts info_ints
 refine wpList_make_full w hg s c 74 hop w.heap.size 25 i0 (.slice none 0 0) 1 Tryd.underlying74 hi hz0 hz1 .i64 .i64 n n n hs hc rfl rfl (by rw [hz2]; omega) (by unfold maxLen; omega) (Nat.le_refl _) fun w' h1 h2 => h w' ⟨_, h1, ?_, by simp, Nat.le_refl _, ?_, ?_⟩ ?_
 ·simp [size_madeCells]
 ·intro k v l hv hl
  rw [List.getElem?_replicate] at hl
  split at hl
  ·injection hl with hl
   subst hl
   have : v = .slice none 0 0 := by
    have hc1 : (Value.slice none 0 0).cells = #[.slice none 0 0] := rfl
    rw [hc1, toList_madeCells_one] at hv
    exact List.eq_of_mem_replicate (List.mem_of_getElem? hv)
   subst this
   exact Own.nil
  ·cases hl
 ·intro j k u v _ hu _
  have hc1 : (Value.slice none 0 0).cells = #[.slice none 0 0] := rfl
  rw [hc1, toList_madeCells_one] at hu
  rw [List.eq_of_mem_replicate (List.mem_of_getElem? hu)]
  exact .inl rfl
 ·exact (Below.refl _ _).grown h2 (Nat.le_refl _) (by intro k hk; cases hk)
def Mid (base : Nat) (w : World) (g m : Nat) (ll : List (List Int)) (a : Nat) (v' : Value) (l' : List Int) : Prop :=
 ∃ vs : List Value, w.ownsRow base 25 1 (.slice (some ⟨g, 0, none⟩) m m) m vs ∧ vs.length = ll.length ∧ ll.length = m ∧ base ≤ g ∧ (∀ (k : Nat) v l, k ≠ a → vs[k]? = some v → ll[k]? = some l → Own (g + 1) w v l) ∧
  (∀ (j k : Nat) u v, j ≠ k → vs[j]? = some u → vs[k]? = some v → u.ownBlock = none ∨ u.ownBlock ≠ v.ownBlock) ∧ Own (g + 1) w v' l' ∧
  (∀ (j : Nat) u, j ≠ a → vs[j]? = some u → (u.ownBlock = none ∨ u.ownBlock ≠ v'.ownBlock) ∧ (v'.ownBlock = none ∨ v'.ownBlock ≠ u.ownBlock))
theorem Mid.form {base : Nat} {w : World} {g m : Nat} {ll : List (List Int)} {a : Nat} {v' : Value} {l' : List Int} (h : Mid base w g m ll a v' l') : ∃ B c, v' = .slice B l'.length c := by
 obtain ⟨vs, _, _, _, _, _, _, ho, _⟩ := h
 obtain ⟨B, c, e, _⟩ := ho.form
 exact ⟨B, c, e⟩
theorem Mid.free {base : Nat} {w : World} {g m : Nat} {ll : List (List Int)} {a : Nat} {v' : Value} {l' : List Int} (h : Mid base w g m ll a v' l') (k : Nat) : w.frozen? ⟨g, k, none⟩ = false := by
 obtain ⟨vs, h1, _⟩ := h
 exact h1.frozenAt k
theorem Mid.cell {base : Nat} {w : World} {g m : Nat} {ll : List (List Int)} {a : Nat} {v' : Value} {l' : List Int} (h : Mid base w g m ll a v' l') {k : Nat} (hk : k < m) : ∃ v, w.cell? ⟨g, k, none⟩ = some v := by
 obtain ⟨vs, h1, h2, h3, _⟩ := h
 exact ⟨vs[k], by rw [h1.cellAt k (by omega), List.getElem?_eq_getElem]⟩
theorem Mid.set {base : Nat} {w : World} {g m : Nat} {ll : List (List Int)} {a : Nat} {v' : Value} {l' : List Int} (h : Mid base w g m ll a v' l') : OwnD base (w.setCell ⟨g, a, none⟩ v') g m (ll.set a l') := by
 obtain ⟨vs, h1, h2, h3, h4, h5, h6, h7, h8⟩ := h
 refine ⟨vs.set a v', (h1.stored a v').1, by simp [h2], by simp [h3], h4, fun j u q hu hq => ?_, fun j k u v hne hu hv => ?_⟩
 ·rw [List.getElem?_set] at hu hq
  by_cases e : a = j
  ·rw [if_pos e] at hu hq
   split at hu
   ·split at hq
    ·injection hu with hu; injection hq with hq; subst hu; subst hq; exact h7.store (by omega)
    ·cases hq
   ·cases hu
  ·rw [if_neg e] at hu hq
   exact (h5 j u q (fun hc => e hc.symm) hu hq).store (by omega)
 ·rw [List.getElem?_set] at hu hv
  by_cases e1 : a = j
  ·have e2 : a ≠ k := fun hc => hne (e1.symm.trans hc)
   rw [if_pos e1] at hu
   rw [if_neg e2] at hv
   split at hu
   ·injection hu with hu; subst hu
    exact (h8 k v (fun hc => e2 hc.symm) hv).2
   ·cases hu
  ·rw [if_neg e1] at hu
   by_cases e2 : a = k
   ·rw [if_pos e2] at hv
    split at hv
    ·injection hv with hv; subst hv
     exact (h8 j u (fun hc => e1 hc.symm) hu).1
    ·cases hv
   ·rw [if_neg e2] at hv
    exact h6 j k u v hne hu hv
theorem step_app_row {ops : Array Oper} {o : Oper} {act : Act} {K : Act → World → Prop} {Q : Exit → Act → World → Prop} {E : Prop} (W : World) {W1 : World} (hgd : o.guard = none) (s x : Operand)
  (ho : o.op = .call { callee := .builtin .append, args := #[s, x], argTypes := #[25, 25] }) (base : Nat) {g m a : Nat} {ll : List (List Int)} {l : List Int} {v : Value} {y : Int} (hD : OwnD base W g m ll) (ha : ll[a]? = some l)
  (hcell : W.cell? ⟨g, a, none⟩ = some v) (hW : W1 = W.alloc (.cells #[.int .i64 y] 3)) (hs : act.eval s = v)
  (hx : act.eval x = .slice (some ⟨W.heap.size, 0, none⟩) 1 1) (hn : l.length < 100000000) (hbase : base ≤ W.heap.size) (hy : I64 y)
  (h : ∀ v' w', Mid base w' g m ll a v' (l ++ [y]) → w'.cell? ⟨g, a, none⟩ = some v → Below base W w' → K (act.put o.dst v') w') :
  if Region.wanted o (yielded ops act.tmps) = true then Oper.wp Tryd.prog o act W1 K Q else E := by
 have hw : Region.wanted o (yielded ops act.tmps) = true := by simp [Region.wanted, hgd]
 rw [if_pos hw]
 subst hW
 obtain ⟨i0, hi, hz0, hz1, hz2⟩ := info_parts info_int
 obtain ⟨vs, h1, h2, h3, h4, h5, h6⟩ := hD
 have hal := (List.getElem?_eq_some_iff.1 ha).1
 have hva : vs[a]? = some v := by rw [← h1.cellAt a (by omega)]; exact hcell
 have hown := h5 a v l hva ha
 have hgl := h1.lt g rfl
 obtain ⟨v', w', hrun, r1, r2, _, r3⟩ := run_append_own_at (P := Tryd.prog) (W.alloc (.cells #[.int .i64 y] 3)) (g + 1) 25 o.type 3 i0 (.int .i64 0) 1 8 Tryd.underlying25 hi hz0 hz1 hz2 rfl (by decide) v l.length (l.map (Value.int .i64))
  (hown.1.alloc _) ⟨W.heap.size, 0, none⟩ 1 1 [.int .i64 y] rfl (by
   intro j q hj
   match j, hj with
   | 0, hj => simp at hj; subst hj; simp [Addr.add]) (by intro q hq; simp at hq; subst hq; rfl) (by unfold maxLen; omega) (by omega) (by simp; omega)
 unfold Oper.wp execOp
 simp only [ho, resolve, invoke, builtin, Sem.run_bind, Sem.run_pure, Result.andThen_ok, List.map_toArray, List.map_cons, List.map_nil, hs, hx, hrun]
 have hvb : ∀ b, v.ownBlock = some b → g + 1 ≤ b ∧ b < W.heap.size := hown.1.lt
 have hout : w'.ownsRow base 25 1 (.slice (some ⟨g, 0, none⟩) m m) m vs := by
  refine (h1.alloc _).kept r2 (.inr ?_)
  intro hc
  have := hvb g hc.symm
  omega
 refine h v' w' ⟨vs, hout, h2, h3, h4, fun k u q hk hu hq => ?_, h6, ⟨by simpa using r1, fun q hq => ?_⟩, fun j u hj hu => ?_⟩ (by rw [hout.cellAt a (by omega)]; exact hva) ?_
 ·have hu0 := h5 k u q hu hq
  exact ⟨(hu0.1.alloc _).kept r2 (h6 k a u v hk hu hva), hu0.2⟩
 ·rcases List.mem_append.1 hq with hq | hq
  ·exact hown.2 q hq
  ·simp at hq; subst hq; exact hy
 ·have d1 := h6 j a u v hj hu hva
  have d2 := h6 a j v u (fun hc => hj hc.symm) hva hu
  have hjl : j < ll.length := by have := (List.getElem?_eq_some_iff.1 hu).1; omega
  have hub : ∀ b, u.ownBlock = some b → b < W.heap.size := fun b hb => ((h5 j u ll[j] hu (List.getElem?_eq_getElem hjl)).1.lt b hb).2
  rcases r3 with r3 | r3
  ·rw [r3]; exact ⟨d1, d2⟩
  ·rw [r3]
   have hne : u.ownBlock ≠ some (W.alloc (.cells #[.int .i64 y] 3)).heap.size := fun hc => by
    have := hub _ hc
    simp at this
    omega
   exact ⟨.inr hne, .inr (fun hc => hne hc.symm)⟩
 ·exact ((Below.refl base W).alloc hbase _).grown r2 (by simp; omega) (fun b hb => by have := (hvb b hb).1; omega)
theorem app_rowD {ops : Array Oper} {rest : List Oper} {o : Oper} {act : Act} {Q : Exit → Act → World → Prop} (W : World) {W1 : World} (hgd : o.guard = none) (s x : Operand)
  (ho : o.op = .call { callee := .builtin .append, args := #[s, x], argTypes := #[25, 25] }) (base : Nat) {g m a : Nat} {ll : List (List Int)} {l : List Int} {v : Value} {y : Int} (hD : OwnD base W g m ll) (ha : ll[a]? = some l)
  (hcell : W.cell? ⟨g, a, none⟩ = some v) (hW : W1 = W.alloc (.cells #[.int .i64 y] 3)) (hs : act.eval s = v)
  (hx : act.eval x = .slice (some ⟨W.heap.size, 0, none⟩) 1 1) (hn : l.length < 100000000) (hbase : base ≤ W.heap.size) (hy : I64 y)
  (h : ∀ v' w', Mid base w' g m ll a v' (l ++ [y]) → w'.cell? ⟨g, a, none⟩ = some v → Below base W w' → wpList Tryd.prog ops Q rest (act.put o.dst v') w') :
  wpList Tryd.prog ops Q (o :: rest) act W1 := by
 unfold wpList
 have hw : Region.wanted o (yielded ops act.tmps) = true := by simp [Region.wanted, hgd]
 have := step_app_row (ops := ops) (Q := Q) (E := True) (K := fun a w => wpList Tryd.prog ops Q rest a w) W hgd s x ho base hD ha hcell hW hs hx hn hbase hy h
 rw [if_pos hw] at this ⊢
 exact .inl this
theorem OwnD.grow {base : Nat} {w w' : World} {g m : Nat} {ll : List (List Int)} (h : OwnD base w g m ll) (hb : Below w.heap.size w w') : OwnD base w' g m ll := by
 obtain ⟨vs, h1, h2, h3, h4, h5, h6⟩ := h
 exact ⟨vs, own_grow h1 hb, h2, h3, h4, fun k v l hv hl => (h5 k v l hv hl).grow hb, h6⟩
end Go.Proofs.YtdiflpbioohddaaDoor
end
section
namespace Go.Proofs.YtdiflpbioohddaaDoor
theorem qld_mid {P : Program} {ops : Array Oper} {rest : List Oper} {o : Oper} {a : Act} {C : World → Prop} {Q : Act → Prop} (hw : Region.wanted o (yielded ops a.tmps) = true) (ty : TypeId) (x : Operand) (ho : o.op = .load ty x) (b k : Nat) (hx : a.eval x = .pointer (some ⟨b, k, none⟩)) (cs : List Value) (d : TypeDesc) (hc : ∀ w, C w → w.rangeAt b k cs)
  (hu : P.underlying ty = some d) (hd : d.isRow = true) (hi : (P.info? ty).map (·.size) = some cs.length) (h : wpQuiet P ops C Q rest (a.put o.dst (.agg cs.toArray))) : wpQuiet P ops C Q (o :: rest) a :=
 BigFrame.wpQuiet_want hw fun K hK => ⟨_, fun w hw' => by
  unfold Oper.quietAt execOp
  simp only [ho, hx, Instr.loadAt, Instr.sureAddr, Sem.run_bind, Sem.run_pure, Result.andThen_ok, run_loadVar_mid w b k ty cs d (hc w hw') hu hd hi]
  exact ⟨rfl, rfl⟩, hK _ h⟩
end Go.Proofs.YtdiflpbioohddaaDoor
end
section
namespace Go.Proofs.YtdiflpbioohddaaDoor
open Go.RowKit
def depRow (l : List Ins) (j m : Nat) : List Int := ((List.range m).filter fun i => depF (l.getD i Ins.zero) (l.getD j Ins.zero)).map fun i : Nat => (i : Int)
theorem depRow_zero (l : List Ins) (j : Nat) : depRow l j 0 = [] := rfl
theorem depRow_succ (l : List Ins) (j m : Nat) : depRow l j (m + 1) = if depF (l.getD m Ins.zero) (l.getD j Ins.zero) then depRow l j m ++ [(m : Int)] else depRow l j m := by
 unfold depRow
 rw [List.range_succ, List.filter_append]
 by_cases h : depF (l.getD m Ins.zero) (l.getD j Ins.zero) = true
 ·simp only [List.filter_cons, List.filter_nil, h, if_true, List.map_append, List.map_cons, List.map_nil]
 ·simp only [List.filter_cons, List.filter_nil, h, if_false, List.append_nil]
  simp
theorem depRow_len (l : List Ins) (j m : Nat) : (depRow l j m).length ≤ m := by
 unfold depRow
 rw [List.length_map]
 exact Nat.le_trans (List.length_filter_le _ _) (by simp)
theorem depRow_mem {l : List Ins} {j m : Nat} {v : Int} (h : v ∈ depRow l j m) : ∃ i : Nat, i < m ∧ v = i ∧ depF (l.getD i Ins.zero) (l.getD j Ins.zero) = true := by
 unfold depRow at h
 obtain ⟨i, hi, rfl⟩ := List.mem_map.1 h
 obtain ⟨h1, h2⟩ := List.mem_filter.1 hi
 exact ⟨i, List.mem_range.1 h1, rfl, h2⟩
def depT (l : List Ins) (n t : Nat) : List (List Int) := (List.range n).map fun j => if j < t then depRow l j j else []
theorem depT_length (l : List Ins) (n t : Nat) : (depT l n t).length = n := by simp [depT]
theorem depT_at {l : List Ins} {n t j : Nat} (hj : j < n) : (depT l n t)[j]? = some (if j < t then depRow l j j else []) := by
 simp only [depT, List.getElem?_map, List.getElem?_range hj]; rfl
theorem depT_zero (l : List Ins) (n : Nat) : depT l n 0 = List.replicate n [] := by
 apply List.ext_getElem?
 intro i
 rw [List.getElem?_replicate]
 by_cases h : i < n
 ·rw [depT_at h, if_pos h, if_neg (by omega)]
 ·rw [if_neg h, List.getElem?_eq_none (by rw [depT_length]; omega)]
theorem depT_set (l : List Ins) (n t : Nat) : (depT l n t).set t (depRow l t t) = depT l n (t + 1) := by
 apply List.ext_getElem?
 intro i
 rw [List.getElem?_set, depT_length]
 by_cases h : i < n
 ·rw [depT_at h, depT_at h]
  by_cases e : t = i
  ·subst e; rw [if_pos rfl, if_pos h, if_pos (by omega)]
  ·rw [if_neg e]
   by_cases h2 : i < t
   ·rw [if_pos h2, if_pos (by omega)]
   ·rw [if_neg h2, if_neg (by omega)]
 ·have e1 : (depT l n t)[i]? = none := List.getElem?_eq_none (by rw [depT_length]; omega)
  have e2 : (depT l n (t + 1))[i]? = none := List.getElem?_eq_none (by rw [depT_length]; omega)
  rw [e1, e2]
  by_cases e : t = i
  ·subst e; simp [h]
  ·rw [if_neg e]
theorem depT_start (l : List Ins) (n t : Nat) : (depT l n t).set t [] = depT l n t := by
 apply List.ext_getElem?
 intro i
 rw [List.getElem?_set, depT_length]
 by_cases e : t = i
 ·subst e
  rw [if_pos rfl]
  by_cases h : t < n
  ·rw [if_pos h, depT_at h, if_neg (by omega)]
  ·rw [if_neg h, List.getElem?_eq_none (by rw [depT_length]; omega)]
 ·rw [if_neg e]
def depsF (l : List Ins) : List (List Int) := depT l l.length l.length
def depD (l : List Ins) : List (List Int) := if fineF l then depsF l else []
theorem I64_nat {k : Nat} (h : k ≤ 1000000000) : I64 (k : Int) := by unfold I64; omega
theorem qld_insA {ops : Array Oper} {rest : List Oper} {o : Oper} {a : Act} {Q : Act → Prop} {W : World} {i : Ins} {ad : Addr} {n : Nat} (hs : ad.spot = none) (hb : ad.block < W.heap.size) (hr : W.rangeAt ad.block (ad.off + n) i.cells) (hw : Region.wanted o (yielded ops a.tmps) = true) (x : Operand) (ho : o.op = .load 109 x) (hx : a.eval x = .pointer (some (ad.add n))) (h : wpQuiet Tryd.prog ops (fun w' => ∃ n : Ext W, w' = n.to) Q rest (a.put o.dst i.v)) : wpQuiet Tryd.prog ops (fun w' => ∃ n : Ext W, w' = n.to) Q (o :: rest) a := by
 obtain ⟨d, h1, h2⟩ := row_ins
 rw [add_noneI hs] at hx
 exact qld_mid hw _ x ho ad.block (ad.off + n) hx i.cells d (fun w hw' => by obtain ⟨n, rfl⟩ := hw'; exact range_keepI hr hb n.below) h1 h2 size_ins h
theorem qld_useA {ops : Array Oper} {rest : List Oper} {o : Oper} {a : Act} {Q : Act → Prop} {W : World} {B C : Option Addr} {a1 b c d1 : Nat} {ad : Addr} {n : Nat} (hs : ad.spot = none) (hb : ad.block < W.heap.size) (hr : W.rangeAt ad.block (ad.off + n) [.slice B a1 b, .slice C c d1]) (hw : Region.wanted o (yielded ops a.tmps) = true) (x : Operand) (ho : o.op = .load 144 x) (hx : a.eval x = .pointer (some (ad.add n))) (h : wpQuiet Tryd.prog ops (fun w' => ∃ n : Ext W, w' = n.to) Q rest (a.put o.dst (useV B a1 b C c d1))) : wpQuiet Tryd.prog ops (fun w' => ∃ n : Ext W, w' = n.to) Q (o :: rest) a := by
 obtain ⟨d, h1, h2⟩ := row_use
 rw [add_noneI hs] at hx
 exact qld_mid hw _ x ho ad.block (ad.off + n) hx [.slice B a1 b, .slice C c d1] d (fun w hw' => by obtain ⟨n, rfl⟩ := hw'; exact range_keepI hr hb n.below) h1 h2 size_use h
set_option maxRecDepth 100000 in
set_option maxHeartbeats 4000000 in
theorem sc_Depends (A : Option Addr) (n c : Nat) (l : List Ins) (w : World) (hf : FormsAt w) (h : InsAt w A l) (hn : l.length = n) (h9 : n ≤ 9223372036854775807) : Calls Tryd.prog 80 #[.slice A n c] w (RetIntsL w (depD l) (depE l)) := by
 by_cases hfl : fineF l = true
 ·have CE : Hid (Calls Tryd.prog 81 #[.slice A n c] w fun e w' => ∃ UA uc, e = .returned (.tuple #[.slice UA n uc, .int .i64 0]) ∧ UsesAt w' UA l ∧ Below w.heap.size w w') := by
   refine (sc_uses A n c l w hf h hn h9).mono ?_
   rintro e w' ⟨⟨UA, uc, he, hu⟩, hb⟩
   unfold depE at he
   rw [if_pos hfl, if_pos hfl, hn] at he
   exact ⟨UA, uc, he, hu hfl, hb⟩
  have hn512 : n ≤ 512 := by
   unfold fineF inB at hfl
   rw [Bool.and_eq_true, Bool.and_eq_true, decide_eq_true_eq, decide_eq_true_eq, hn] at hfl
   omega
  have HI := Lib.hid h
  have HN := Lib.hid hn
  have HFL := Lib.hid hfl
  clear h hn hf hfl h9
  go_enter Tryd.func80, Tryd.ntmps80
  go_upto_region 4 with (go_at_call 81; (with_reducible refine CE.out.mono ?_); rintro e1 w1 ⟨UA, uc, rfl, hu, hb1⟩)
  have HU := Lib.hid hu
  have HB1 := Lib.hid hb1
  have HI1 := Lib.hid (HI.out.grow hb1)
  clear hu hb1 HI CE
  go_upto_region 5 with ((with_reducible show wpList _ _ _ (Oper.mk (some 19) _ _ _ _ _ :: _) _ _); refine mk_intD rfl _ _ rfl n rfl rfl rfl (by omega) ?_; intro w2 ho2 hb2)
  have HO2 : Hid (OwnD w1.heap.size w2 w1.heap.size n (depT l n 0)) := by rw [depT_zero]; exact ho2
  have HB2 := Lib.hid hb2
  have HG : Hid (∃ g, w1.heap.size = g) := ⟨_, rfl⟩
  obtain ⟨g, hg⟩ := HG.out
  have HGG := Lib.hid hg
  rw [hg] at HO2 HB2 ⊢
  clear ho2 hb2 hg HG
  go_wp2_with fail
  go_loopw [22] (fun x wr => ∃ t : Nat, t ≤ n ∧ x = .int .i64 t ∧ Hid (OwnD g wr g n (depT l n t)) ∧ Hid (Below g w1 wr)) (fun x _ => n - (intOf x).toNat)
  case atStart => exact ⟨0, Nat.zero_le _, rfl, HO2, HB2⟩
  case round =>
   obtain ⟨t, ht, rfl, HO, HB⟩ := hrel
   by_cases hlt : t < n
   ·obtain ⟨j, hj⟩ : ∃ j, l[t]? = some j := ⟨_, List.getElem?_eq_getElem (by rw [HN.out]; exact hlt)⟩
    have HJ := Lib.hid hj
    clear hj
    have q1 : (0 : Int) ≤ (t : Int) := by omega
    have q2 : (t : Int) < (n : Int) := by omega
    have wt : IntKind.i64.wrap ((t : Int) + 1) = ((t + 1 : Nat) : Int) := (IntWalk.i64_in _ (by omega)).trans (by omega)
    have HOS : Hid (OwnD g wr g n ((depT l n t).set t (depRow l t 0))) := by rw [depRow_zero, depT_start]; exact HO
    obtain ⟨wo, hwo⟩ : ∃ wo : World, wo = wr := ⟨_, rfl⟩
    clear HO
    go_wp2_with fail
    go_loopw [26] (fun x wr => ∃ m : Nat, m ≤ t ∧ x = .int .i64 m ∧ Hid (OwnD g wr g n ((depT l n t).set t (depRow l t m))) ∧ Hid (Below g w1 wr)) (fun x _ => t - (intOf x).toNat)
    case atStart => exact ⟨0, Nat.zero_le _, rfl, HOS, HB⟩
    case round =>
     obtain ⟨m, hm, rfl, HO, HB⟩ := hrel
     by_cases hmt : m < t
     ·obtain ⟨i, hi⟩ : ∃ i, l[m]? = some i := ⟨_, List.getElem?_eq_getElem (by rw [HN.out]; omega)⟩
      have p1 : (0 : Int) ≤ (m : Int) := by omega
      have p2 : (m : Int) < (n : Int) := by omega
      have p3 : (m : Int) < (t : Int) := by omega
      have wm : IntKind.i64.wrap ((m : Int) + 1) = ((m + 1 : Nat) : Int) := (IntWalk.i64_in _ (by omega)).trans (by omega)
      have hIr := HI1.out.grow (HGG.out ▸ HB.out)
      have hUr := HU.out.grow (HGG.out ▸ HB.out)
      obtain ⟨ad, rfl, hs, hb, hri, oki⟩ := hIr m i hi
      obtain ⟨ad2, e2, -, -, hrj, okj⟩ := hIr t j HJ.out
      obtain rfl : ad = ad2 := Option.some.inj e2
      obtain ⟨ud, B, b, C, d, rfl, us, ub, hui, r1, r2⟩ := hUr m i hi
      obtain ⟨ud2, B', b', C', d', e3, -, -, huj, r3, r4⟩ := hUr t j HJ.out
      obtain rfl : ud = ud2 := Option.some.inj e3
      have CD : Hid (∀ w1, Below wr.heap.size wr w1 → Calls Tryd.prog 108 #[i.v, j.v, useV B i.rd.length b C i.wt.length d, useV B' j.rd.length b' C' j.wt.length d'] w1 fun e w' => e = .returned (.bool (depF i j)) ∧ Below w1.heap.size w1 w') :=
       fun w1 hb => sc_depends i j B C B' C' _ _ _ _ _ _ _ _ w1 (r1.grow hb) (r2.grow hb) (r3.grow hb) (r4.grow hb) rfl rfl rfl rfl
      have D1 : Hid (ad.spot = none ∧ ad.block < wr.heap.size ∧ wr.rangeAt ad.block (ad.off + m * 4) i.cells ∧ wr.rangeAt ad.block (ad.off + t * 4) j.cells) := ⟨hs, hb, hri, hrj⟩
      have D2 : Hid (ud.spot = none ∧ ud.block < wr.heap.size ∧ wr.rangeAt ud.block (ud.off + m * 2) [.slice B i.rd.length b, .slice C i.wt.length d] ∧ wr.rangeAt ud.block (ud.off + t * 2) [.slice B' j.rd.length b', .slice C' j.wt.length d']) := ⟨us, ub, hui, huj⟩
      have HDF : Hid (depRow l t (m + 1) = if depF i j then depRow l t m ++ [(m : Int)] else depRow l t m) := by
       show _ = _
       rw [depRow_succ, List.getD_eq_getElem?_getD, List.getD_eq_getElem?_getD, hi, HJ.out]; rfl
      clear e2 e3 hs hb hri hrj oki okj us ub hui huj r1 r2 r3 r4 hi hIr hUr
      obtain ⟨bb, hbb⟩ : ∃ bb, depF i j = bb := ⟨_, rfl⟩
      rw [hbb] at CD HDF
      clear hbb
      go_upto_region 11 with fail
      refine wp_region_ext (by kernel_rfl) (by kernel_rfl) ?_
      repeat (first
       | ((with_reducible show wpQuiet _ _ _ _ (Oper.mk _ (.load 109 _) _ _ _ _ :: _) _); (first | (refine qld_insA D1.out.1 D1.out.2.1 D1.out.2.2.1 rfl _ rfl rfl ?_) | (refine qld_insA D1.out.1 D1.out.2.1 D1.out.2.2.2 rfl _ rfl rfl ?_)); simp [Act.put])
       | ((with_reducible show wpQuiet _ _ _ _ (Oper.mk _ (.load 144 _) _ _ _ _ :: _) _); (first | (refine qld_useA D2.out.1 D2.out.2.1 D2.out.2.2.1 rfl _ rfl rfl ?_) | (refine qld_useA D2.out.1 D2.out.2.1 D2.out.2.2.2 rfl _ rfl rfl ?_)); simp [Act.put])
       | (go_big_quiet_step (first
        | (go_at_call 108; exact ext_below (CD.out _ (Ext.below _))))))
      refine wpQuiet_nil ?_
      rintro ⟨w3, hb3⟩
      dsimp only
      have HB3 := Lib.hid hb3
      clear hb3 CD D1 D2
      have hat : ((depT l n t).set t (depRow l t m))[t]? = some (depRow l t m) := List.getElem?_set_self (by rw [depT_length]; exact hlt)
      have HAT := Lib.hid hat
      have HO3 := Lib.hid (HO.out.grow HB3.out)
      have HBG := Lib.hid (HB.out.trans (HB3.out.mono (Nat.le_of_lt HO.out.own.block.2)))
      clear hat HO HB HB3
      cases bb with
      | false =>
       go_wp2_with fail
       go_roundw
       case rel => exact ⟨m + 1, by omega, rfl, (by rw [HDF.out]; exact HO3), HBG⟩
       case measure => simp [intOf]; omega
      | true =>
       obtain ⟨B5, c5, hc5, ho5⟩ := HO3.out.own.cell HAT.out
       have hlr : (depRow l t m).length < 100000000 := Nat.lt_of_le_of_lt (depRow_len l t m) (by omega)
       have hgs : g ≤ w3.heap.size := Nat.le_of_lt (HO3.out.own.block).2
       have hfr := HO3.out.own.free t
       have H5 : Hid ((depRow l t m).length < 100000000 ∧ g ≤ w3.heap.size) := ⟨hlr, hgs⟩
       clear hlr hgs ho5
       go_upto_region 13 with (((with_reducible show wpList _ _ _ (Oper.mk (some 54) _ _ _ _ _ :: _) _ _); refine app_rowD w3 rfl _ _ rfl g HO3.out HAT.out hc5 rfl rfl rfl H5.out.1 H5.out.2 (I64_nat (by omega)) ?_; intro v6 w6 hmid hc6 hb6; obtain ⟨B6, c6, rfl⟩ := hmid.form; have hfm := hmid.free t))
       have hset := hmid.set
       rw [List.set_set] at hset
       have hl1 : (depRow l t m ++ [(m : Int)]).length = (depRow l t m).length + 1 := by simp
       rw [hl1] at hset
       have HS6 : Hid (OwnD g (w6.setCell ⟨g, t, none⟩ (.slice B6 ((depRow l t m).length + 1) c6)) g n ((depT l n t).set t (depRow l t (m + 1)))) := by rw [HDF.out, if_pos rfl]; exact hset
       have HB6 : Hid (Below g w1 (w6.setCell ⟨g, t, none⟩ (.slice B6 ((depRow l t m).length + 1) c6))) := (HBG.out.trans hb6).setCell (Nat.le_refl _) _
       clear hl1 hset hmid hc6 hc5 hb6 hfm hfr
       go_wp2_with fail
       go_roundw
       case rel => exact ⟨m + 1, by omega, rfl, HS6, HB6⟩
       case measure => simp [intOf]; omega
     ·obtain rfl : m = t := by omega
      have hlo : ¬ (m : Int) < (m : Int) := by omega
      go_wp2_with fail
      go_roundw
      case rel => exact ⟨m + 1, by omega, rfl, (by rw [← depT_set]; exact HO), HB⟩
      case measure => simp [intOf]; omega
   ·obtain rfl : t = n := by omega
    have hlo : ¬ (t : Int) < (t : Int) := by omega
    go_wp2_with fail
    go_ret2
    have e1 : depD l = depT l t t := by unfold depD depsF; rw [if_pos HFL.out, HN.out]
    have e2 : depE l = 0 := by unfold depE; rw [if_pos HFL.out]
    rw [e1, e2]
    exact RetIntsL.mk (depT_length l t t).symm HO.out.own.ints (below_then HB1.out (HGG.out ▸ HB.out))
 ·have hfl : fineF l = false := by simpa using hfl
  have CE : Hid (Calls Tryd.prog 81 #[.slice A n c] w fun e w' => ∃ UA uc, e = .returned (.tuple #[.slice UA 0 uc, .int .i64 21]) ∧ Below w.heap.size w w') := by
   refine (sc_uses A n c l w hf h hn h9).mono ?_
   rintro e w' ⟨⟨UA, uc, he, hu⟩, hb⟩
   unfold depE at he
   rw [hfl] at he
   exact ⟨UA, uc, he, hb⟩
  have HFL := Lib.hid hfl
  clear h hn hf hfl h9
  go_enter Tryd.func80, Tryd.ntmps80
  go_wp2_with (go_at_call 81; (with_reducible refine CE.out.mono ?_); rintro e1 w1 ⟨UA, uc, rfl, hb1⟩)
  go_ret2
  have e1 : depD l = [] := by unfold depD; rw [HFL.out]; rfl
  have e2 : depE l = 21 := by unfold depE; rw [HFL.out]; rfl
  rw [e1, e2]
  exact RetIntsL.mk rfl IntsL.nil hb1
end Go.Proofs.YtdiflpbioohddaaDoor
end
section
namespace Go.Proofs.YtdiflpbioohddaaDoor
open Go.RowKit
def hitF (l : List Ins) (v : Int) (i k : Nat) : Bool := (List.range k).any fun m => decide (i < m) && (l.getD m Ins.zero).wt.contains v
theorem hitF_start (l : List Ins) (v : Int) (i : Nat) : hitF l v i (i + 1) = false := by
 unfold hitF
 rw [List.any_eq_false]
 intro m hm
 have := List.mem_range.1 hm
 simp
 intro h
 omega
theorem hitF_succ {l : List Ins} {v : Int} {i k : Nat} (h : i < k) {x : Ins} (hx : l[k]? = some x) : hitF l v i (k + 1) = (hitF l v i k || x.wt.contains v) := by
 unfold hitF
 rw [List.range_succ, List.any_append]
 simp only [List.any_cons, List.any_nil, Bool.or_false, decide_eq_true h, Bool.true_and, List.getD_eq_getElem?_getD, hx, Option.getD_some]
theorem hitF_le {l : List Ins} {v : Int} {i k j : Nat} (h : i < k) (hkj : k < j) {x : Ins} (hx : l[k]? = some x) (hc : x.wt.contains v = true) : hitF l v i j = true := by
 unfold hitF
 rw [List.any_eq_true]
 refine ⟨k, List.mem_range.2 hkj, ?_⟩
 simp only [decide_eq_true h, Bool.true_and, List.getD_eq_getElem?_getD, hx, Option.getD_some]
 exact hc
theorem hitF_none {l : List Ins} {v : Int} {i j : Nat} (h : j ≤ i + 1) : hitF l v i j = false := by
 unfold hitF
 rw [List.any_eq_false]
 intro m hm
 have := List.mem_range.1 hm
 simp
 intro h
 omega
def latX (l : List Ins) (x y : Ins) (i j : Nat) : Int := if delayF x.op = 0 ∨ y.rd.contains x.a = false then 1 else if hitF l x.a i j then 1 else 1 + delayF x.op
def latP (l : List Ins) (i j : Nat) : Int := latX l (l.getD i Ins.zero) (l.getD j Ins.zero) i j
theorem latP_eq {l : List Ins} {i j : Nat} {x y : Ins} (hx : l[i]? = some x) (hy : l[j]? = some y) : latP l i j = latX l x y i j := by
 unfold latP
 rw [List.getD_eq_getElem?_getD, List.getD_eq_getElem?_getD, hx, hy]; rfl
theorem delayF_in (op : Int) : 0 ≤ delayF op ∧ delayF op ≤ 2 := by unfold delayF; split <;> (try split) <;> decide
theorem latP_in (l : List Ins) (i j : Nat) : 1 ≤ latP l i j ∧ latP l i j ≤ 3 := by
 unfold latP latX
 have := delayF_in (l.getD i Ins.zero).op
 split
 ·decide
 ·split
  ·decide
  ·omega
set_option maxRecDepth 100000 in
set_option maxHeartbeats 4000000 in
theorem sc_latency (A UA : Option Addr) (n c uc : Nat) (l : List Ins) (i j : Nat) (w : World) (h : InsAt w A l) (hu : UsesAt w UA l) (hn : l.length = n) (h9 : n ≤ 512) (hi : i < n) (hj : j < n) :
  Calls Tryd.prog 109 #[.slice A n c, .slice UA n uc, .int .i64 i, .int .i64 j] w fun e w' => e = .returned (.int .i64 (latP l i j)) ∧ Below w.heap.size w w' := by
 obtain ⟨x, hx⟩ : ∃ x, l[i]? = some x := ⟨_, List.getElem?_eq_getElem (by omega)⟩
 obtain ⟨y, hy⟩ : ∃ y, l[j]? = some y := ⟨_, List.getElem?_eq_getElem (by omega)⟩
 rw [latP_eq hx hy]
 obtain ⟨ad, rfl, hs, hb, hrx, okx⟩ := h i x hx
 obtain ⟨ud, B, b, C, c2, rfl, us, ub, huy, r1, r2⟩ := hu j y hy
 have fx := ins_cells hs hrx
 have CD : Hid (∀ w, Calls Tryd.prog 83 #[.int .i64 x.op] w fun e w' => e = .returned (.int .i64 (delayF x.op)) ∧ w = w') := fun w => sc_delay x.op w
 have CY : Hid (∀ w1, Below w.heap.size w w1 → Calls Tryd.prog 116 #[.slice B y.rd.length b, .int .i64 x.a] w1 fun e w' => e = .returned (.bool (y.rd.contains x.a)) ∧ w1 = w') := fun w1 hb => sl_Contains B y.rd b _ x.a w1 rfl (by have := rd_len y; omega) (r1.grow hb)
 have HU := Lib.hid hu
 have HX := Lib.hid hx
 have HN := Lib.hid hn
 have HS := Lib.hid hs
 have hz1 : ∀ n : Ext w, n.to.cell? (ud.add (j * 2)) = some (.slice B y.rd.length b) := fun n => (n.cell _ (by rw [add_noneI us]; exact ub)).trans (by rw [add_noneI us]; exact huy 0 _ rfl)
 have hz2 : ∀ n : Ext w, n.to.cell? ⟨(ad.add (i * 4)).block, (ad.add (i * 4)).off + 1, none⟩ = some (.int .i64 x.a) := fun n => (n.cell _ (by rw [add_noneI hs]; exact hb)).trans fx.2.1
 have HZ1 := Lib.hid hz1
 have HZ2 := Lib.hid hz2
 have g1 := fx.1
 have q1 : (0 : Int) ≤ (i : Int) := by omega
 have q2 : (i : Int) < (n : Int) := by omega
 have q3 : (0 : Int) ≤ (j : Int) := by omega
 have q4 : (j : Int) < (n : Int) := by omega
 have wi : IntKind.i64.wrap ((i : Int) + 1) = ((i + 1 : Nat) : Int) := (IntWalk.i64_in _ (by omega)).trans (by omega)
 have hdl := delayF_in x.op
 have HR : Hid (latX l x y i j = if delayF x.op = 0 ∨ y.rd.contains x.a = false then 1 else if hitF l x.a i j then 1 else 1 + delayF x.op) := rfl
 obtain ⟨R, hR⟩ : ∃ R, latX l x y i j = R := ⟨_, rfl⟩
 rw [hR] at HR ⊢
 clear hR fx h hu hx hy hn hs huy r1 r2 us ub hrx okx hb hz1 hz2
 obtain ⟨D, hD⟩ : ∃ D, delayF x.op = D := ⟨_, rfl⟩
 obtain ⟨K, hK⟩ : ∃ K, y.rd.contains x.a = K := ⟨_, rfl⟩
 rw [hD] at CD HR hdl
 rw [hK] at CY HR
 clear hD hK
 have wd : IntKind.i64.wrap (1 + D) = 1 + D := IntWalk.i64_in _ (by omega)
 by_cases hD0 : D = 0
 ·subst hD0
  have hR1 : R = 1 := by rw [HR.out, if_pos (.inl rfl)]
  subst hR1
  go_enter Tryd.func109, Tryd.ntmps109
  go_upto_region 2 with (go_at_call 83; (with_reducible refine (CD.out _).mono ?_); rintro e1 w1 ⟨rfl, rfl⟩)
  refine wp_region_ext (by kernel_rfl) (by kernel_rfl) ?_
  repeat (go_big_quiet_step (fail))
  refine wpQuiet_nil ?_
  rintro _ ⟨⟨w1, hb1⟩, rfl⟩
  go_wp2_with fail
  go_ret
  exact ⟨rfl, hb1⟩
 ·have e0 : (D == 0) = false := by simpa using hD0
  have d0 : decide (D = 0) = false := decide_eq_false hD0
  cases K with
  | false =>
   have hR1 : R = 1 := by rw [HR.out, if_pos (.inr rfl)]
   subst hR1
   have hz1 := HZ1.out
   have hz2 := HZ2.out
   go_enter Tryd.func109, Tryd.ntmps109
   go_upto_region 2 with (go_at_call 83; (with_reducible refine (CD.out _).mono ?_); rintro e1 w1 ⟨rfl, rfl⟩)
   refine wp_region_ext (by kernel_rfl) (by kernel_rfl) ?_
   repeat (go_big_quiet_step (first | (go_at_call 116; exact ext_same (CY.out _ (Ext.below _)))))
   refine wpQuiet_nil ?_
   rintro _ ⟨⟨w1, hb1⟩, rfl⟩
   go_wp2_with fail
   go_ret
   exact ⟨rfl, hb1⟩
  | true =>
   have HR2 : Hid (R = if hitF l x.a i j then 1 else 1 + D) := by
    show _ = _
    rw [HR.out, if_neg (fun hc => hc.elim hD0 (fun h => by cases h))]
   clear HR
   have hz1 := HZ1.out
   have hz2 := HZ2.out
   go_enter Tryd.func109, Tryd.ntmps109
   go_upto_region 2 with (go_at_call 83; (with_reducible refine (CD.out _).mono ?_); rintro e1 w1 ⟨rfl, rfl⟩)
   refine wp_region_ext (by kernel_rfl) (by kernel_rfl) ?_
   repeat (go_big_quiet_step (first | (go_at_call 116; exact ext_same (CY.out _ (Ext.below _)))))
   refine wpQuiet_nil ?_
   rintro _ ⟨⟨w1, hb1⟩, rfl⟩
   have HB1 := Lib.hid hb1
   clear hz1 hz2 hb1 g1 CY CD
   go_wp2_with fail
   go_loopw [10] (fun v wr => ∃ k : Nat, i < k ∧ (k ≤ j ∨ k = i + 1) ∧ v = .int .i64 k ∧ Hid (hitF l x.a i k = false) ∧ Hid (Below w.heap.size w wr)) (fun v _ => j - (intOf v).toNat)
   case atStart => exact ⟨i + 1, by omega, by omega, by go_num, Lib.hid (hitF_start l x.a i), HB1⟩
   case round =>
    obtain ⟨k, hik, hkj, rfl, HH, HB⟩ := hrel
    by_cases hlt : k < j
    ·obtain ⟨z, hz⟩ : ∃ z, l[k]? = some z := ⟨_, List.getElem?_eq_getElem (by have := HN.out; omega)⟩
     obtain ⟨ud2, B2, b2, C2, c3, e2, us, ub, huz, r1, r2⟩ := (HU.out.grow HB.out) k z hz
     obtain rfl : ud = ud2 := Option.some.inj e2
     have p1 : (0 : Int) ≤ (k : Int) := by omega
     have p2 : (k : Int) < (n : Int) := by omega
     have p3 : (k : Int) < (j : Int) := by omega
     have wk : IntKind.i64.wrap ((k : Int) + 1) = ((k + 1 : Nat) : Int) := (IntWalk.i64_in _ (by omega)).trans (by omega)
     have hz3 : ∀ n : Ext wr, n.to.cell? ⟨(ud.add (k * 2)).block, (ud.add (k * 2)).off + 1, none⟩ = some (.slice C2 z.wt.length c3) := fun n => (n.cell _ (by rw [add_noneI us]; exact ub)).trans (by rw [add_noneI us]; exact huz 1 _ rfl)
     have hz4 : ∀ n : Ext wr, n.to.cell? ⟨(ad.add (i * 4)).block, (ad.add (i * 4)).off + 1, none⟩ = some (.int .i64 x.a) := fun n => HZ2.out ⟨n.to, below_then HB.out n.below⟩
     have CZ : Hid (∀ w1, Below wr.heap.size wr w1 → Calls Tryd.prog 116 #[.slice C2 z.wt.length c3, .int .i64 x.a] w1 fun e w' => e = .returned (.bool (z.wt.contains x.a)) ∧ w1 = w') := fun w1 hb => sl_Contains C2 z.wt c3 _ x.a w1 rfl (by have := wt_len z; omega) (r2.grow hb)
     have HZ := Lib.hid hz
     obtain ⟨K2, hK2⟩ : ∃ K2, z.wt.contains x.a = K2 := ⟨_, rfl⟩
     have HK2 := Lib.hid hK2
     rw [hK2] at CZ
     clear hz huz r1 r2 us ub hK2 e2
     cases K2 with
     | true =>
      have hR1 : R = 1 := by rw [HR2.out, if_pos (hitF_le hik hlt HZ.out HK2.out)]
      subst hR1
      go_upto_region 7 with fail
      refine wp_region_ext (by kernel_rfl) (by kernel_rfl) ?_
      repeat (go_big_quiet_step (first | (go_at_call 116; exact ext_same (CZ.out _ (Ext.below _)))))
      refine wpQuiet_nil ?_
      rintro _ ⟨⟨w3, hb3⟩, rfl⟩
      go_wp2_with fail
      go_ret
      exact ⟨rfl, below_then HB.out hb3⟩
     | false =>
      go_upto_region 7 with fail
      refine wp_region_ext (by kernel_rfl) (by kernel_rfl) ?_
      repeat (go_big_quiet_step (first | (go_at_call 116; exact ext_same (CZ.out _ (Ext.below _)))))
      refine wpQuiet_nil ?_
      rintro _ ⟨⟨w3, hb3⟩, rfl⟩
      go_wp2_with fail
      go_roundw
      case rel => exact ⟨k + 1, by omega, by omega, rfl, Lib.hid (by show _ = _; rw [hitF_succ hik HZ.out, HH.out, HK2.out]; rfl), Lib.hid (below_then HB.out hb3)⟩
      case measure => simp [intOf]; omega
    ·have hlo : ¬ (k : Int) < (j : Int) := by omega
     have hR1 : R = 1 + D := by
      rw [HR2.out]
      have : hitF l x.a i j = false := by
       rcases hkj with h | h
       ·obtain rfl : k = j := by omega
        exact HH.out
       ·exact hitF_none (by omega)
      rw [this]; rfl
     subst hR1
     go_wp2_with fail
     go_ret
     exact ⟨rfl, HB.out⟩
end Go.Proofs.YtdiflpbioohddaaDoor
end
