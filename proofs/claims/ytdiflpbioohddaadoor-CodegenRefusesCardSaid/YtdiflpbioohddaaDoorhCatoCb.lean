/- Several texts in one: Ca E17 E18 E19 E21 E26 E29 O2 On U5 E24 Od Oi E30 Cb. -/
import Derived.Test.YtdiflpbioohddaaDoorhE5toS1
import Derived.Test.YtdiflpbioohddaaDoorhJ
import Derived.DeepKeys4
import Derived.WideKeyEntry
import Derived.Test.YtdiflpbioohddaaDoorhG9toG10
import Derived.Carry
import Derived.Test.YtdiflpbioohddaaDoorhE1toE3
import Derived.Test.YtdiflpbioohddaaDoorhJ2
import Derived.OrdersHeld
import Derived.Test.YtdiflpbioohddaaDoorhBtoG2
import Derived.Deep.Slices
import Derived.Lib.SmallJoins
import Derived.Test.YtdiflpbioohddaaDoorhUtoU3
import Derived.Deep.DeepCutAuto
import Derived.Deep.CutBlock
import Derived.OwnWalk
set_option linter.unusedVariables false
set_option linter.unusedSimpArgs false
section
namespace Go.Proofs.YtdiflpbioohddaaDoor
def nextR (x : Int) : Int := if 7 ≤ x + 1 then 1 else x + 1
theorem nextR_in {x : Int} (h : 0 ≤ x) : 1 ≤ nextR x ∧ nextR x ≤ 6 := by unfold nextR; split <;> omega
def termI (t : Int × Int) : Ins := if t.1 = 0 then ⟨2, 0, 0, t.2⟩ else ⟨3, t.1 - 1, 0, t.2⟩
def nodeI (r m : Int) (ts : List (Int × Int)) : List Ins := ⟨1, 0, 0, 0⟩ :: (ts.map termI ++ [⟨5, r, 0, 0⟩, ⟨7, r, m, 0⟩])
def genC (st : Int) (ns : List (List (Int × Int))) : Nat → List Ins × Int
  | 0 => ([⟨9, 0, 0, 0⟩], 0)
  | k + 1 => ((genC st ns k).1 ++ nodeI (nextR (genC st ns k).2) (st + k) (ns.getD k []), nextR (genC st ns k).2)
def fetchI (v r : Int) : List Ins := if v = 0 then [] else [⟨6, nextR r, v - 1, 0⟩]
def fetchR (v r : Int) : Int := if v = 0 then 0 else nextR r
def fetchL (v r : Int) : Int := if v = 0 then r else nextR r
structure AdvS where
  code : List Ins
  pend : List Bool
  saved : List Bool
  last : Int
def needB (src : List Int) (s : AdvS) (k : Nat) : Bool := (List.range src.length).any fun j => s.pend.getD j false && (!s.saved.getD j false && decide (src.getD j 0 = (k : Int) + 1))
def canB (src : List Int) (s : AdvS) (k : Nat) : Bool := s.pend.getD k false && !needB src s k
def moveS (src : List Int) (s : AdvS) (k : Nat) : AdvS :=
  if s.saved.getD k false then { s with code := s.code ++ [⟨7, 7, k, 0⟩], pend := s.pend.set k false }
  else { s with code := s.code ++ fetchI (src.getD k 0) s.last ++ [⟨7, fetchR (src.getD k 0) s.last, k, 0⟩], pend := s.pend.set k false, last := fetchL (src.getD k 0) s.last }
def tryS (src : List Int) (s : AdvS) (k : Nat) : AdvS := if canB src s k then moveS src s k else s
def passS (src : List Int) (s : AdvS) : Nat → AdvS
  | 0 => s
  | k + 1 => tryS src (passS src s k) k
def AdvS.left (s : AdvS) : Nat := s.pend.count true
def brkS (src : List Int) (s : AdvS) (k : Nat) : AdvS :=
  { s with code := s.code ++ [⟨6, 7, k, 0⟩], saved := (List.range src.length).map fun j => s.saved.getD j false || (s.pend.getD j false && decide (src.getD j 0 = (k : Int) + 1)) }
def firstP (s : AdvS) : Nat := s.pend.findIdx fun b => b
def roundS (src : List Int) (s : AdvS) : AdvS := if (passS src s src.length).left < s.left then passS src s src.length else brkS src s (firstP s)
def advGo (src : List Int) : Nat → AdvS → AdvS
  | 0, s => s
  | f + 1, s => if s.left = 0 then s else advGo src f (roundS src s)
def advM (src : List Int) (s : AdvS) : Nat := 2 * s.left + if (List.range src.length).any (canB src s) then 0 else 1
structure AdvW (src : List Int) (s : AdvS) : Prop where
  pl : s.pend.length = src.length
  sl : s.saved.length = src.length
theorem count_set {l : List Bool} {k : Nat} (h : l.getD k false = true) : (l.set k false).count true + 1 = l.count true := by
  induction l generalizing k with
  | nil => simp at h
  | cons a l ih =>
    cases k with
    | zero =>
      have : a = true := by simpa using h
      subst this
      simp
    | succ k =>
      have := ih (k := k) (by simpa using h)
      rw [List.set_cons_succ, List.count_cons, List.count_cons]
      omega
theorem move_left {src : List Int} {s : AdvS} {k : Nat} (h : s.pend.getD k false = true) : (moveS src s k).left + 1 = s.left := by
  unfold moveS AdvS.left
  split <;> exact count_set h
theorem canB_pend {src : List Int} {s : AdvS} {k : Nat} (h : canB src s k = true) : s.pend.getD k false = true := by
  unfold canB at h
  simp only [Bool.and_eq_true] at h
  exact h.1
theorem step_left {src : List Int} {s : AdvS} {k : Nat} : (tryS src s k).left ≤ s.left := by
  unfold tryS
  split
  · rename_i h
    have := move_left (src := src) (canB_pend h)
    omega
  · exact Nat.le_refl _
theorem pass_same {src : List Int} {s : AdvS} : ∀ k, (∀ j, j < k → canB src s j = false) → passS src s k = s
  | 0, _ => rfl
  | k + 1, h => by
    have := pass_same k fun j hj => h j (by omega)
    show tryS src (passS src s k) k = s
    rw [this]
    unfold tryS
    rw [if_neg (by rw [h k (by omega)]; decide)]
theorem pass_first {src : List Int} {s : AdvS} : ∀ n, (∃ k, k < n ∧ canB src s k = true) → (passS src s n).left < s.left
  | 0, ⟨_, hk, _⟩ => absurd hk (Nat.not_lt_zero _)
  | n + 1, h => by
    by_cases h' : ∃ k, k < n ∧ canB src s k = true
    · exact Nat.lt_of_le_of_lt step_left (pass_first n h')
    · have hno : ∀ j, j < n → canB src s j = false := fun j hj => by
        cases e : canB src s j with
        | false => rfl
        | true => exact absurd ⟨j, hj, e⟩ h'
      obtain ⟨k, hk, hc⟩ := h
      have hkn : k = n := by
        rcases Nat.lt_or_ge k n with hlt | hge
        · rw [hno k hlt] at hc; cases hc
        · omega
      subst hkn
      show (tryS src (passS src s k) k).left < s.left
      rw [pass_same k hno]
      unfold tryS
      rw [if_pos hc]
      have := move_left (src := src) (canB_pend hc)
      omega
theorem pass_none {src : List Int} {s : AdvS} {n : Nat} (h : ¬ (passS src s n).left < s.left) : ∀ j, j < n → canB src s j = false := fun j hj => by
  cases e : canB src s j with
  | false => rfl
  | true => exact absurd (pass_first n ⟨j, hj, e⟩) h
theorem first_pend {s : AdvS} (h : s.left ≠ 0) : firstP s < s.pend.length ∧ s.pend.getD (firstP s) false = true := by
  have hm : true ∈ s.pend := List.count_pos_iff.1 (by unfold AdvS.left at h; omega)
  have hlt : firstP s < s.pend.length := List.findIdx_lt_length.2 ⟨true, hm, rfl⟩
  refine ⟨hlt, ?_⟩
  rw [List.getD_eq_getElem?_getD, List.getElem?_eq_getElem hlt]
  exact List.findIdx_getElem (w := hlt)
theorem getD_mapR {n j : Nat} {f : Nat → Bool} (h : j < n) : ((List.range n).map f).getD j false = f j := by
  rw [List.getD_eq_getElem?_getD, List.getElem?_map, List.getElem?_range h]; rfl
theorem brk_can {src : List Int} {s : AdvS} {k : Nat} (h : s.pend.getD k false = true) : canB src (brkS src s k) k = true := by
  unfold canB
  have h1 : (brkS src s k).pend.getD k false = true := h
  have h2 : needB src (brkS src s k) k = false := by
    unfold needB
    rw [List.any_eq_false]
    intro j hj
    have hj := List.mem_range.1 hj
    show ¬ (s.pend.getD j false && (!((List.range src.length).map fun j => s.saved.getD j false || (s.pend.getD j false && decide (src.getD j 0 = (k : Int) + 1))).getD j false && decide (src.getD j 0 = (k : Int) + 1))) = true
    rw [getD_mapR hj]
    cases s.pend.getD j false <;> cases s.saved.getD j false <;> cases decide (src.getD j 0 = (k : Int) + 1) <;> decide
  rw [h1, h2]; rfl
theorem round_less {src : List Int} {s : AdvS} (hw : AdvW src s) (h : s.left ≠ 0) : advM src (roundS src s) < advM src s := by
  unfold roundS
  by_cases hm : (passS src s src.length).left < s.left
  · rw [if_pos hm]
    unfold advM
    split <;> split <;> omega
  · rw [if_neg hm]
    have hno := pass_none hm
    have e : (List.range src.length).any (canB src s) = false := by
      rw [List.any_eq_false]
      intro j hj
      rw [hno j (List.mem_range.1 hj)]; decide
    obtain ⟨h1, h2⟩ := first_pend h
    have e2 : (List.range src.length).any (canB src (brkS src s (firstP s))) = true := List.any_eq_true.2 ⟨firstP s, List.mem_range.2 (by rw [← hw.pl]; exact h1), brk_can h2⟩
    unfold advM
    rw [e, e2, if_pos rfl, if_neg (by decide)]
    show 2 * s.left + 0 < _
    omega
theorem AdvW.move {src : List Int} {s : AdvS} {k : Nat} (h : AdvW src s) : AdvW src (moveS src s k) := by
  unfold moveS
  split
  · exact ⟨by rw [List.length_set]; exact h.pl, h.sl⟩
  · exact ⟨by rw [List.length_set]; exact h.pl, h.sl⟩
theorem AdvW.step {src : List Int} {s : AdvS} {k : Nat} (h : AdvW src s) : AdvW src (tryS src s k) := by
  unfold tryS
  split
  · exact h.move
  · exact h
theorem AdvW.pass {src : List Int} {s : AdvS} (h : AdvW src s) : ∀ k, AdvW src (passS src s k)
  | 0 => h
  | k + 1 => (h.pass k).step
theorem AdvW.brk {src : List Int} {s : AdvS} {k : Nat} (h : AdvW src s) : AdvW src (brkS src s k) := ⟨h.pl, by unfold brkS; simp⟩
theorem AdvW.round {src : List Int} {s : AdvS} (h : AdvW src s) : AdvW src (roundS src s) := by
  unfold roundS
  split
  · exact h.pass _
  · exact h.brk
theorem adv_stop {src : List Int} {s : AdvS} (h : s.left = 0) : ∀ f, advGo src f s = s
  | 0 => rfl
  | f + 1 => by
    show (if s.left = 0 then s else _) = s
    rw [if_pos h]
theorem adv_next {src : List Int} {s : AdvS} {f : Nat} (h : s.left ≠ 0) : advGo src (f + 1) s = advGo src f (roundS src s) := by
  show (if s.left = 0 then s else _) = _
  rw [if_neg h]
theorem adv_ind {src : List Int} {P : AdvS → Prop} (hmove : ∀ s k, AdvW src s → k < src.length → canB src s k = true → P s → P (moveS src s k))
    (hbrk : ∀ s k, AdvW src s → k < src.length → s.pend.getD k false = true → (∀ j, j < src.length → canB src s j = false) → P s → P (brkS src s k)) :
    ∀ f s, AdvW src s → P s → P (advGo src f s)
  | 0, _, _, h => h
  | f + 1, s, hw, h => by
    by_cases h0 : s.left = 0
    · rw [adv_stop h0]; exact h
    · rw [adv_next h0]
      refine adv_ind hmove hbrk f _ hw.round ?_
      have hp : ∀ k, k ≤ src.length → P (passS src s k) := fun k => by
        induction k with
        | zero => exact fun _ => h
        | succ k ih =>
          intro hk
          show P (tryS src (passS src s k) k)
          unfold tryS
          split
          · rename_i hc
            exact hmove _ k (hw.pass k) (by omega) hc (ih (by omega))
          · exact ih (by omega)
      unfold roundS
      split
      · exact hp _ (Nat.le_refl _)
      · rename_i hm
        obtain ⟨h1, h2⟩ := first_pend h0
        exact hbrk s _ hw (by rw [← hw.pl]; exact h1) h2 (pass_none hm) h
def pend0 (src : List Int) : List Bool := (List.range src.length).map fun k => decide (src.getD k 0 ≠ (k : Int) + 1)
def adv0 (code : List Ins) (last : Int) (src : List Int) : AdvS := ⟨code, pend0 src, List.replicate src.length false, last⟩
theorem adv0_w {code : List Ins} {last : Int} {src : List Int} : AdvW src (adv0 code last src) := ⟨by unfold adv0 pend0; simp, by unfold adv0; simp⟩
def advF (code : List Ins) (last : Int) (src : List Int) : AdvS := advGo src (2 * src.length + 1) (adv0 code last src)
theorem count_le {l : List Bool} : l.count true ≤ l.length := List.count_le_length
theorem adv0_m {code : List Ins} {last : Int} {src : List Int} : advM src (adv0 code last src) ≤ 2 * src.length + 1 := by
  have h : (adv0 code last src).left ≤ src.length := by
    have := count_le (l := (adv0 code last src).pend)
    rw [adv0_w.pl] at this
    exact this
  unfold advM
  split <;> omega
def bodyC (st out : Int) (ns : List (List (Int × Int))) : List Ins × Int :=
  ((genC st ns ns.length).1 ++ fetchI out (genC st ns ns.length).2 ++ [⟨10, fetchR out (genC st ns ns.length).2, 0, 0⟩], fetchL out (genC st ns ns.length).2)
def compC (st out : Int) (ns : List (List (Int × Int))) (nx : List Int) : List Ins := (advF (bodyC st out ns).1 (bodyC st out ns).2 nx).code ++ [⟨0, 0, 0, 0⟩]
end Go.Proofs.YtdiflpbioohddaaDoor
end
section
namespace Go.Proofs.YtdiflpbioohddaaDoor
def issF (t : Int × List Int) (i : Ins) : Int := rdF t.2 t.1 i.rd
def freeF (l : List Ins) (tk : List Bool) (k : Nat) : Bool := !(tk.getD k false) && (depRow l k k).all fun i => tk.getD i.toNat false
def betF (l : List Ins) (H : List Int) (t : Int × List Int) (b : Int × Int) (k : Nat) : Bool :=
  decide (b.1 < 0) || decide (issF t (l.getD k Ins.zero) < b.2) || (decide (issF t (l.getD k Ins.zero) = b.2) && decide (H.getD b.1.toNat 0 < H.getD k 0))
def stepB (l : List Ins) (H : List Int) (t : Int × List Int) (tk : List Bool) (b : Int × Int) (k : Nat) : Int × Int :=
  if freeF l tk k then (if betF l H t b k then ((k : Int), issF t (l.getD k Ins.zero)) else b) else b
def bestB (l : List Ins) (H : List Int) (t : Int × List Int) (tk : List Bool) (m : Nat) : Int × Int := (List.range m).foldl (stepB l H t tk) (-1, 0)
def grS (l : List Ins) (H : List Int) (s : List Bool × List Ins) : List Bool × List Ins :=
  (s.1.set (bestB l H (tmF s.2) s.1 l.length).1.toNat true, s.2 ++ [l.getD (bestB l H (tmF s.2) s.1 l.length).1.toNat Ins.zero])
def gr (l : List Ins) (H : List Int) : Nat → List Bool × List Ins
  | 0 => (List.replicate l.length false, [])
  | r + 1 => grS l H (gr l H r)
end Go.Proofs.YtdiflpbioohddaaDoor
end
section
namespace Go.Proofs.YtdiflpbioohddaaDoor
open Go.RowKit
theorem IntsL.row {w : World} {A : Option Addr} {ll : List (List Int)} (h : IntsL w A ll) {k : Nat} {l : List Int} (hk : ll[k]? = some l) :
    ∃ ad B c, A = some ad ∧ w.cell? (ad.add k) = some (.slice B l.length c) ∧ Ints w B l := by
  obtain ⟨ad, B, c, e, h1, h2, h3⟩ := h k l hk
  exact ⟨ad, B, c, e, h2, h3⟩
end Go.Proofs.YtdiflpbioohddaaDoor
end
section
namespace Go.Proofs.YtdiflpbioohddaaDoor
open Go.RowKit
def lenOf : Value → Nat
  | .slice _ n _ => n
  | _ => 0
end Go.Proofs.YtdiflpbioohddaaDoor
end
section
namespace Go.Proofs.YtdiflpbioohddaaDoor
open Go.RowKit
def litI (w : World) (l : List Ins) : World := w.alloc (.cells ((l.flatMap encI).map (Value.int .i64)).toArray 109)
theorem InsAt.lit {w : World} {l : List Ins} (hl : ∀ i ∈ l, i.ok) : InsAt (litI w l) (some ⟨w.heap.size, 0, none⟩) l := fun k i hk => by
  refine ⟨_, rfl, rfl, by unfold litI; simp, fun j v hj => ?_, hl i (List.mem_of_getElem? hk)⟩
  have hj4 : j < 4 := (List.getElem?_eq_some_iff.1 hj).1
  have hb := Box.new (w := w) (vs := ((l.flatMap encI).map (Value.int .i64)).toArray) (t := 109) (g := w.heap.size) rfl
  have h2 := hb.2.1 (k * 4 + j)
  rw [show (⟨w.heap.size, 0, none⟩ : Addr).off + k * 4 + j = k * 4 + j by show 0 + k * 4 + j = _; omega]
  exact h2.trans ((flatI_get hk hj4).trans hj)
end Go.Proofs.YtdiflpbioohddaaDoor
end
section
namespace Go.Proofs.YtdiflpbioohddaaDoor
open Go.RowKit
end Go.Proofs.YtdiflpbioohddaaDoor
end
section
namespace Go.Proofs.YtdiflpbioohddaaDoor
open Go.RowKit
theorem flatI_set : ∀ (l : List Ins) (k : Nat) (i : Ins), (l.set k i).flatMap encI = ((((l.flatMap encI).set (k * 4) i.op).set (k * 4 + 1) i.a).set (k * 4 + 2) i.b).set (k * 4 + 3) i.imm
  | [], k, i => by simp
  | a :: l, 0, i => by simp [encI]
  | a :: l, k + 1, i => by
    rw [List.set_cons_succ, List.flatMap_cons, flatI_set l k i, List.flatMap_cons]
    show _ = (((([a.op, a.a, a.b, a.imm] ++ l.flatMap encI).set ((k + 1) * 4) i.op).set ((k + 1) * 4 + 1) i.a).set ((k + 1) * 4 + 2) i.b).set ((k + 1) * 4 + 3) i.imm
    rw [show (k + 1) * 4 = k * 4 + 1 + 1 + 1 + 1 by omega]
    simp [encI]
theorem OwnIR.block {base : Nat} {w : World} {g n c : Nat} {l : List Ins} (h : OwnIR base w (.slice (some ⟨g, 0, none⟩) n c) l) : base ≤ g ∧ g < w.heap.size := h.1.lt g rfl
theorem OwnIR.len {base : Nat} {w : World} {A : Option Addr} {n c : Nat} {l : List Ins} (h : OwnIR base w (.slice A n c) l) : n = l.length := by
  obtain ⟨A', c', e, -⟩ := own_form h.1
  injection e
theorem OwnIR.put {base : Nat} {w : World} {g n c : Nat} {l : List Ins} (h : OwnIR base w (.slice (some ⟨g, 0, none⟩) n c) l) (k : Nat) {i : Ins} (hi : i.ok) :
    OwnIR base (w.setCells g (k * 4) i.cells) (.slice (some ⟨g, 0, none⟩) n c) (l.set k i) := by
  have e2 := h.len
  subst e2
  have a0 := (h.1.stored (k * 4) (.int .i64 i.op)).1
  have a1 := (a0.stored (k * 4 + 1) (.int .i64 i.a)).1
  have a2 := (a1.stored (k * 4 + 2) (.int .i64 i.b)).1
  have a3 := (a2.stored (k * 4 + 3) (.int .i64 i.imm)).1
  refine ⟨by rw [List.length_set, flatI_set, List.map_set, List.map_set, List.map_set, List.map_set]; exact a3, fun q hq => ?_⟩
  rcases List.mem_or_eq_of_mem_set hq with hq | hq
  · exact h.2 q hq
  · subst hq; exact hi
theorem OwnIR.there {base : Nat} {w : World} {g n c : Nat} {l : List Ins} (h : OwnIR base w (.slice (some ⟨g, 0, none⟩) n c) l) {k : Nat} (hk : k < l.length) : w.there g (k * 4) 4 := by
  have e2 := h.len
  subst e2
  intro j hj
  refine ⟨?_, h.1.frozenAt _⟩
  rw [h.1.cellAt (k * 4 + j) (by omega), flatI_get (List.getElem?_eq_getElem hk) hj]
  show ((l[k].cells)[j]?).isSome = true
  match j, hj with
  | 0, _ | 1, _ | 2, _ | 3, _ => rfl
end Go.Proofs.YtdiflpbioohddaaDoor
end
section
set_option maxRecDepth 100000
namespace Go.Proofs.YtdiflpbioohddaaDoor
open Go.Joins Go.ChangeShapes Go.WideShapes Go.RowKit Go.Deep
theorem get_lt {α : Type} {l : List α} {n i : Nat} (h : l.length = n) (hi : i < n) : ∃ x, l[i]? = some x := ⟨_, List.getElem?_eq_getElem (h ▸ hi)⟩
theorem open_rowsR {H : Type} {enc : TypeId × Value → H} {w : World} {base fuel : Nat} {β : Type} [Inhabited β] {t e : TypeId} {k : Nat} (ht : Tryd.prog.underlying t = some (.slice e)) (hk : Tryd.prog.cellsOf e = k) (R : Addr → β → Prop)
    (each : ∀ (m : Nat) (a : Addr) (cs : List Value) (y : DataW H × List MemPlace), w.cells? base a k = some cs → DataW.trod enc Tryd.prog w base (fun _ => true) true m e cs = some y → ∃ b, R a b) {v : Value} {y : DataW H × List MemPlace}
    (hf : DataW.trod enc Tryd.prog w base (fun _ => true) true fuel t [v] = some y) :
    ∃ u : Option Addr × Nat × List β, v = .slice u.1 u.2.2.length u.2.1 ∧ (∀ (i : Nat) b, u.2.2[i]? = some b → ∃ ad, u.1 = some ad ∧ R (ad.add (i * k)) b) ∧ u.2.2.length ≤ 9223372036854775807 := by
  subst hk
  rcases open_slice ht hf with ⟨hcs, _⟩ | ⟨x, l, c, m, n, D, Pl, hcs, _, hl, hm, hmm, _, hrow⟩
  · simp at hcs
    subst hcs
    exact ⟨⟨none, 0, []⟩, rfl, fun i b h => by simp at h, by simp⟩
  · simp at hcs
    subst hcs
    simp only [if_true] at hmm
    have each : ∀ i, i < l → ∃ s : β, R (x.add (i * Tryd.prog.cellsOf e)) s := fun i hi => by
      obtain ⟨cs', h1, h2⟩ := hrow i (by omega)
      exact each _ _ _ _ h1 h2
    obtain ⟨S, hS⟩ := choose_lt (α := β) each
    have hlen : ((List.range l).map S).length = l := by simp
    refine ⟨⟨some x, c, (List.range l).map S⟩, by rw [hlen], fun k s hk => ?_, by rw [hlen]; unfold maxLen at hm; omega⟩
    have hkl : k < l := by
      have := (List.getElem?_eq_some_iff.1 hk).1
      simpa using this
    rw [List.getElem?_map, List.getElem?_range hkl] at hk
    simp only [Option.map_some, Option.some.injEq] at hk
    subst hk
    exact ⟨x, rfl, hS k hkl⟩
end Go.Proofs.YtdiflpbioohddaaDoor
end
section
set_option maxRecDepth 100000
namespace Go.Proofs.YtdiflpbioohddaaDoor
open Go.Joins Go.ChangeShapes Go.WideShapes Go.RowKit
theorem trod_Ints {H : Type} {enc : TypeId × Value → H} {w : World} {base fuel : Nat} {spare : Nat → Bool} {held : Bool} {v : Value} {y : DataW H × List MemPlace}
    (hf : DataW.trod enc Tryd.prog w base spare held fuel 25 [v] = some y) :
    ∃ u : Option Addr × Nat × List Int, v = .slice u.1 u.2.2.length u.2.1 ∧ (Ints w u.1 u.2.2 ∧ u.2.2.length ≤ 9223372036854775807) := by
  rcases open_ints Tryd.underlying25 Tryd.underlying3 (by kernel_rfl) hf with ⟨hcs, _⟩ | ⟨x, l, c, zs, hcs, _, hl, hm, hz, _, hcell, hwz⟩
  · simp at hcs
    subst hcs
    exact ⟨⟨none, 0, []⟩, rfl, Ints.nil, by simp⟩
  · simp at hcs
    subst hcs
    have hlz : l ≤ zs.length := by rw [hz]; split <;> omega
    have hlen : (zs.take l).length = l := by simp; omega
    refine ⟨⟨some x, c, zs.take l⟩, by rw [hlen], ⟨fun k v hk => ?_, fun y hy => i64_of_wf (hwz y (List.mem_of_mem_take hy))⟩, by rw [hlen]; unfold maxLen at hm; omega⟩
    rw [List.getElem?_map] at hk
    cases hx : (zs.take l)[k]? with
    | none => rw [hx] at hk; cases hk
    | some q =>
      rw [hx] at hk
      simp only [Option.map_some, Option.some.injEq] at hk
      subst hk
      have hkl : k < l := by
        have := (List.getElem?_eq_some_iff.1 hx).1
        omega
      rw [List.getElem?_take_of_lt hkl] at hx
      have hc := hcell k (by omega)
      rw [List.getD_eq_getElem?_getD, hx] at hc
      have hb := cell_lt hc
      rw [block_add] at hb
      exact ⟨x, rfl, hb, hc⟩
end Go.Proofs.YtdiflpbioohddaaDoor
end
section
namespace Go.Proofs.YtdiflpbioohddaaDoor
open Go.RowKit
theorem resCT {fn : Func} {t x : Tmp} {T : TypeId} (h : fn.results = #[.cell t T, .tmp x]) (tmps : Array Value) (P : Program) (w : World) {g : Nat} {v : Value} (hp : tmps.getD t undef = .pointer (some ⟨g, 0, none⟩)) (hv : (loadVar T ⟨g, 0, none⟩).run P w = .ok v w) : (results fn tmps).run P w = .ok (.tuple #[v, tmps.getD x undef]) w := by
  have hp' : tmps[t]?.getD undef = .pointer (some ⟨g, 0, none⟩) := by rw [← Array.getD_eq_getD_getElem?]; exact hp
  simp [results, h, hp', hv, asAddr]
theorem res_box {w : World} {g : Nat} {cs : List Value} (ty : TypeId) (hb : Box w g cs) (d : TypeDesc) (hu : Tryd.prog.underlying ty = some d) (hd : d.isRow = true) (hi : (Tryd.prog.info? ty).map (·.size) = some cs.length) : (loadVar ty ⟨g, 0, none⟩).run Tryd.prog w = .ok (.agg cs.toArray) w :=
  run_loadVar_mid w g 0 _ cs d (hb.range (fun j v h => by rw [Nat.zero_add]; exact h)) hu hd hi
end Go.Proofs.YtdiflpbioohddaaDoor
end
section
namespace Go.Proofs.YtdiflpbioohddaaDoor
open Go.RowKit
def prgL (d0 d1 d2 d3 c0 c1 c2 c3 : Int) (V X : Value) : List Value := [.int .i64 d0, .int .i64 d1, .int .i64 d2, .int .i64 d3, .int .i64 c0, .int .i64 c1, .int .i64 c2, .int .i64 c3, V, X]
def zeros10 : List Value := prgL 0 0 0 0 0 0 0 0 (.slice none 0 0) (.slice none 0 0)
theorem size_prg : (Tryd.prog.info? 41).map (·.size) = some 10 := by kernel_rfl
theorem row_prg : ∃ d, Tryd.prog.underlying 41 = some d ∧ d.isRow = true := ⟨_, Tryd.underlying41, rfl⟩
theorem OwnIR.some {base : Nat} {w : World} {v : Value} {l : List Ins} (h : OwnIR base w v l) (hl : 1 ≤ l.length) : ∃ g c, v = .slice (some ⟨g, 0, none⟩) l.length c := by
  obtain ⟨A, c, rfl, -⟩ := own_form h.1
  obtain ⟨i, hi⟩ : ∃ i, l[0]? = Option.some i := ⟨_, List.getElem?_eq_getElem (by omega)⟩
  obtain ⟨g, e0, -, -⟩ := own_cells h.1 (k := 0 * 4 + 0) (v := .int .i64 i.op) (by rw [flatI_get hi (by omega)]; rfl)
  subst e0
  exact ⟨g, c, rfl⟩
end Go.Proofs.YtdiflpbioohddaaDoor
end
section
namespace Go.Proofs.YtdiflpbioohddaaDoor
structure NetV (c0 c1 c2 c3 st out : Int) (ns : List (List (Int × Int))) (nx : List Int) : Prop where
  okc : okW c0 c1 c2 c3 = true
  len : st = nx.length
  n : nx.length ≤ 64
  nn : ns.length ≤ 64
  terms : ∀ (k : Nat) ts, ns[k]? = some ts → ∀ t ∈ ts, 0 ≤ t.1 ∧ t.1 ≤ st + k ∧ (fitsW c0 c1 c2 c3 t.2 = true ∨ t.2 = 2 ^ c1.toNat)
  next : ∀ v ∈ nx, 0 ≤ v ∧ v ≤ st + ns.length
  fin : 0 ≤ out ∧ out ≤ st + ns.length
def gdI (c0 c1 c2 c3 : Int) (i : Ins) : Prop := i.formed = true ∧ i.op ≠ 0 ∧ i.op ≠ 4 ∧ i.op ≠ 8 ∧ (i.op = 2 ∨ i.op = 3 → fitsW c0 c1 c2 c3 i.imm = true ∨ i.imm = 2 ^ c1.toNat)
theorem op_ne {o k a b m : Int} (h : o ≠ k) : (⟨o, a, b, m⟩ : Ins).op ≠ k := h
theorem gd_load {c0 c1 c2 c3 r m : Int} (h1 : 0 ≤ r ∧ r < 8) (h2 : 0 ≤ m ∧ m < 128) : gdI c0 c1 c2 c3 ⟨6, r, m, 0⟩ := by
  refine ⟨?_, op_ne (by decide), op_ne (by decide), op_ne (by decide), fun h => by rcases h with h | h <;> cases h⟩
  simp [Ins.formed, kA, kB, kC, fitsK]; omega
theorem gd_store {c0 c1 c2 c3 r m : Int} (h1 : 0 ≤ r ∧ r < 8) (h2 : 0 ≤ m ∧ m < 128) : gdI c0 c1 c2 c3 ⟨7, r, m, 0⟩ := by
  refine ⟨?_, op_ne (by decide), op_ne (by decide), op_ne (by decide), fun h => by rcases h with h | h <;> cases h⟩
  simp [Ins.formed, kA, kB, kC, fitsK]; omega
theorem gd_round {c0 c1 c2 c3 r : Int} (h1 : 0 ≤ r ∧ r < 8) : gdI c0 c1 c2 c3 ⟨5, r, 0, 0⟩ := by
  refine ⟨?_, op_ne (by decide), op_ne (by decide), op_ne (by decide), fun h => by rcases h with h | h <;> cases h⟩
  simp [Ins.formed, kA, kB, kC, fitsK]; omega
theorem gd_out {c0 c1 c2 c3 r : Int} (h1 : 0 ≤ r ∧ r < 8) : gdI c0 c1 c2 c3 ⟨10, r, 0, 0⟩ := by
  refine ⟨?_, op_ne (by decide), op_ne (by decide), op_ne (by decide), fun h => by rcases h with h | h <;> cases h⟩
  simp [Ins.formed, kA, kB, kC, fitsK]; omega
theorem gd_in {c0 c1 c2 c3 : Int} : gdI c0 c1 c2 c3 ⟨9, 0, 0, 0⟩ := ⟨by decide, by decide, by decide, by decide, fun h => by rcases h with h | h <;> cases h⟩
theorem gd_clear {c0 c1 c2 c3 : Int} : gdI c0 c1 c2 c3 ⟨1, 0, 0, 0⟩ := ⟨by decide, by decide, by decide, by decide, fun h => by rcases h with h | h <;> cases h⟩
theorem coef_range {c0 c1 c2 c3 v : Int} (hc : okW c0 c1 c2 c3 = true) (h : fitsW c0 c1 c2 c3 v = true ∨ v = 2 ^ c1.toNat) : -8388608 ≤ v ∧ v ≤ 8388608 := by
  have ho := okW_iff.1 hc
  have h23 : (2 : Int) ^ 23 = 8388608 := by decide
  have hp : ∀ m : Nat, m ≤ 23 → (2 : Int) ^ m ≤ 8388608 := fun m hm => by
    rw [← h23]
    exact_mod_cast Nat.pow_le_pow_right (by decide : 0 < 2) hm
  rcases h with h | h
  · unfold fitsW at h
    rw [hc, Bool.true_and, inB_iff] at h
    unfold lowW highW at h
    rw [if_pos hc] at h
    rw [if_pos hc] at h
    have := hp (c0 - 1).toNat (by omega)
    omega
  · have h1 := hp c1.toNat (by omega)
    have h2 : (0 : Int) < 2 ^ c1.toNat := by exact_mod_cast Nat.pow_pos (by decide : 0 < 2)
    omega
theorem gd_term {c0 c1 c2 c3 last : Int} {t : Int × Int} (hc : okW c0 c1 c2 c3 = true) (h : 0 ≤ t.1 ∧ t.1 ≤ last ∧ (fitsW c0 c1 c2 c3 t.2 = true ∨ t.2 = 2 ^ c1.toNat)) (hl : last ≤ 128) : gdI c0 c1 c2 c3 (termI t) := by
  have hr := coef_range hc h.2.2
  unfold termI
  split
  · refine ⟨?_, op_ne (by decide), op_ne (by decide), op_ne (by decide), fun _ => h.2.2⟩
    simp [Ins.formed, kA, kB, kC, fitsK]; omega
  · refine ⟨?_, op_ne (by decide), op_ne (by decide), op_ne (by decide), fun _ => h.2.2⟩
    simp [Ins.formed, kA, kB, kC, fitsK]; omega
theorem genC_last (st : Int) (ns : List (List (Int × Int))) : ∀ k, 0 ≤ (genC st ns k).2 ∧ (genC st ns k).2 ≤ 6
  | 0 => ⟨(by decide : (0 : Int) ≤ 0), (by decide : (0 : Int) ≤ 6)⟩
  | k + 1 => by
    have := nextR_in (genC_last st ns k).1
    show 0 ≤ nextR _ ∧ nextR _ ≤ 6
    omega
theorem genC_good {c0 c1 c2 c3 st out : Int} {ns : List (List (Int × Int))} {nx : List Int} (h : NetV c0 c1 c2 c3 st out ns nx) : ∀ k, k ≤ ns.length → ∀ i ∈ (genC st ns k).1, gdI c0 c1 c2 c3 i
  | 0, _, i, hi => by
    rw [List.mem_singleton.1 hi]; exact gd_in
  | k + 1, hk, i, hi => by
    have h1 := h.len; have h2 := h.n; have h3 := h.nn
    have hr := nextR_in (genC_last st ns k).1
    rcases List.mem_append.1 hi with hi | hi
    · exact genC_good h k (by omega) i hi
    · obtain ⟨ts, hts⟩ : ∃ ts, ns[k]? = some ts := ⟨_, List.getElem?_eq_getElem (by omega)⟩
      have e : ns.getD k [] = ts := by rw [List.getD_eq_getElem?_getD, hts]; rfl
      rw [e] at hi
      unfold nodeI at hi
      rcases List.mem_cons.1 hi with rfl | hi
      · exact gd_clear
      · rcases List.mem_append.1 hi with hi | hi
        · obtain ⟨t, ht, rfl⟩ := List.mem_map.1 hi
          exact gd_term h.okc (h.terms k ts hts t ht) (by omega)
        · rcases List.mem_cons.1 hi with rfl | hi
          · exact gd_round (by omega)
          · rw [List.mem_singleton.1 hi]
            exact gd_store (by omega) (by omega)
theorem fetch_good {c0 c1 c2 c3 v r : Int} (hv : 0 ≤ v ∧ v ≤ 128) (hr : 0 ≤ r) : (∀ i ∈ fetchI v r, gdI c0 c1 c2 c3 i) ∧ (0 ≤ fetchR v r ∧ fetchR v r < 8) ∧ (0 ≤ r ∧ r ≤ 6 → 0 ≤ fetchL v r ∧ fetchL v r ≤ 6) := by
  have := nextR_in hr
  unfold fetchI fetchR fetchL
  split
  · exact ⟨fun i hi => by simp at hi, by omega, fun h => h⟩
  · exact ⟨fun i hi => by rw [List.mem_singleton.1 hi]; exact gd_load (by omega) (by omega), by omega, fun _ => by omega⟩
theorem body_good {c0 c1 c2 c3 st out : Int} {ns : List (List (Int × Int))} {nx : List Int} (h : NetV c0 c1 c2 c3 st out ns nx) : (∀ i ∈ (bodyC st out ns).1, gdI c0 c1 c2 c3 i) ∧ 0 ≤ (bodyC st out ns).2 ∧ (bodyC st out ns).2 ≤ 6 := by
  have h1 := h.len; have h2 := h.n; have h3 := h.nn
  have hl := genC_last st ns ns.length
  obtain ⟨f1, f2, f3⟩ := fetch_good (c0 := c0) (c1 := c1) (c2 := c2) (c3 := c3) (v := out) (r := (genC st ns ns.length).2) (by have := h.fin; omega) hl.1
  refine ⟨fun i hi => ?_, f3 hl⟩
  unfold bodyC at hi
  rcases List.mem_append.1 hi with hi | hi
  · rcases List.mem_append.1 hi with hi | hi
    · exact genC_good h _ (Nat.le_refl _) i hi
    · exact f1 i hi
  · rw [List.mem_singleton.1 hi]
    exact gd_out f2
theorem src_in {st : Int} {n : Nat} {nx : List Int} (h : ∀ v ∈ nx, 0 ≤ v ∧ v ≤ st + n) {k : Nat} (hk : k < nx.length) : 0 ≤ nx.getD k 0 ∧ nx.getD k 0 ≤ st + n := by
  rw [List.getD_eq_getElem?_getD, List.getElem?_eq_getElem hk]
  exact h _ (List.getElem_mem hk)
theorem adv_good {c0 c1 c2 c3 st out : Int} {ns : List (List (Int × Int))} {nx : List Int} (h : NetV c0 c1 c2 c3 st out ns nx) {code : List Ins} {last : Int} (hc : ∀ i ∈ code, gdI c0 c1 c2 c3 i) (hl : 0 ≤ last ∧ last ≤ 6) : ∀ i ∈ (advF code last nx).code, gdI c0 c1 c2 c3 i := by
  have h1 := h.len; have h2 := h.n; have h3 := h.nn
  have key := adv_ind (src := nx) (P := fun s => (∀ i ∈ s.code, gdI c0 c1 c2 c3 i) ∧ 0 ≤ s.last ∧ s.last ≤ 6) ?_ ?_ (2 * nx.length + 1) (adv0 code last nx) adv0_w ⟨hc, hl⟩
  · exact key.1
  · rintro s k - hk - ⟨p1, p2⟩
    have hs := src_in h.next hk
    unfold moveS
    split
    · refine ⟨fun i hi => ?_, p2⟩
      rcases List.mem_append.1 hi with hi | hi
      · exact p1 i hi
      · rw [List.mem_singleton.1 hi]; exact gd_store (by omega) (by omega)
    · obtain ⟨f1, f2, f3⟩ := fetch_good (c0 := c0) (c1 := c1) (c2 := c2) (c3 := c3) (v := nx.getD k 0) (r := s.last) (by omega) p2.1
      refine ⟨fun i hi => ?_, f3 p2⟩
      rcases List.mem_append.1 hi with hi | hi
      · rcases List.mem_append.1 hi with hi | hi
        · exact p1 i hi
        · exact f1 i hi
      · rw [List.mem_singleton.1 hi]; exact gd_store f2 (by omega)
  · rintro s k - hk - - ⟨p1, p2⟩
    refine ⟨fun i hi => ?_, p2⟩
    rcases List.mem_append.1 hi with hi | hi
    · exact p1 i hi
    · rw [List.mem_singleton.1 hi]; exact gd_load (by omega) (by omega)
def advL (src : List Int) (s : AdvS) : Nat := s.code.length + 3 * s.left + if (List.range src.length).any (canB src s) then 0 else 1
theorem fetch_len (v r : Int) : (fetchI v r).length ≤ 1 := by unfold fetchI; split <;> simp
theorem adv_len (src : List Int) (code : List Ins) (last : Int) : (advF code last src).code.length ≤ code.length + 3 * src.length + 1 := by
  have key := adv_ind (src := src) (P := fun s => advL src s ≤ code.length + 3 * src.length + 1) ?_ ?_ (2 * src.length + 1) (adv0 code last src) adv0_w ?_
  · have : (advF code last src).code.length ≤ advL src (advF code last src) := by unfold advL; omega
    exact Nat.le_trans this key
  · intro s k _ hk hc hp
    have e : (List.range src.length).any (canB src s) = true := List.any_eq_true.2 ⟨k, List.mem_range.2 hk, hc⟩
    have hl := move_left (src := src) (canB_pend hc)
    have hlen : (moveS src s k).code.length ≤ s.code.length + 2 := by
      unfold moveS
      split
      · simp
      · have := fetch_len (src.getD k 0) s.last
        simp only [List.length_append, List.length_cons, List.length_nil]; omega
    unfold advL at hp ⊢
    rw [e, if_pos rfl] at hp
    split <;> omega
  · intro s k _ hk hpk hno hp
    have e : (List.range src.length).any (canB src s) = false := by
      rw [List.any_eq_false]
      intro j hj
      rw [hno j (List.mem_range.1 hj)]; decide
    have e2 : (List.range src.length).any (canB src (brkS src s k)) = true := List.any_eq_true.2 ⟨k, List.mem_range.2 hk, brk_can hpk⟩
    unfold advL at hp ⊢
    rw [e, if_neg (by decide)] at hp
    rw [e2, if_pos rfl]
    have h1 : (brkS src s k).code.length = s.code.length + 1 := by unfold brkS; simp
    have h2 : (brkS src s k).left = s.left := rfl
    omega
  · have h : (adv0 code last src).left ≤ src.length := by
      have := count_le (l := (adv0 code last src).pend)
      rw [adv0_w.pl] at this
      exact this
    unfold advL
    show code.length + 3 * (adv0 code last src).left + _ ≤ _
    split <;> omega
def cntT (ns : List (List (Int × Int))) : Nat := (ns.map List.length).sum
theorem genC_len (st : Int) (ns : List (List (Int × Int))) : ∀ k, k ≤ ns.length → (genC st ns k).1.length = 1 + cntT (ns.take k) + 3 * k
  | 0, _ => rfl
  | k + 1, hk => by
    have ih := genC_len st ns k (by omega)
    obtain ⟨ts, hts⟩ : ∃ ts, ns[k]? = some ts := ⟨_, List.getElem?_eq_getElem (by omega)⟩
    have e : ns.getD k [] = ts := by rw [List.getD_eq_getElem?_getD, hts]; rfl
    show ((genC st ns k).1 ++ nodeI _ _ (ns.getD k [])).length = _
    rw [List.length_append, ih, e]
    have e2 : cntT (ns.take (k + 1)) = cntT (ns.take k) + ts.length := by
      unfold cntT
      rw [List.take_add_one, hts, List.map_append, List.sum_append]; rfl
    rw [e2]
    unfold nodeI
    simp; omega
theorem comp_len (st out : Int) (ns : List (List (Int × Int))) (nx : List Int) : (compC st out ns nx).length ≤ 5 + cntT ns + 3 * ns.length + 3 * nx.length := by
  have h1 := genC_len st ns ns.length (Nat.le_refl _)
  rw [List.take_of_length_le (Nat.le_refl _)] at h1
  have h2 : (bodyC st out ns).1.length ≤ 3 + cntT ns + 3 * ns.length := by
    have := fetch_len out (genC st ns ns.length).2
    unfold bodyC
    simp only [List.length_append, List.length_cons, List.length_nil]; omega
  have h3 := adv_len nx (bodyC st out ns).1 (bodyC st out ns).2
  unfold compC
  rw [List.length_append, List.length_cons, List.length_nil]
  omega
theorem gd_suit {d : PrgD} {i : Ins} (hr : d.rg = []) (h : gdI d.c0 d.c1 d.c2 d.c3 i) : suitB d i = true := by
  obtain ⟨h1, h2, h3, h4, h5⟩ := h
  have hu : ∀ m, usdB d.rg m = false := fun m => by rw [hr]; rfl
  have e1 : (if i.op = 4 then decide (i.a < d.rg.length) && decide (i.b < (d.rg.getD i.a.toNat (0, 0)).2) else if i.op = 8 then decide (i.a < d.rg.length)
   else if i.op = 3 then !usdB d.rg i.a else if i.op = 6 ∨ i.op = 7 then !usdB d.rg i.b else true) = true := by
    rw [if_neg h3, if_neg h4, hu, hu]
    split
    · rfl
    · split <;> rfl
  have e2 : (if i.op = 2 ∨ i.op = 3 ∨ i.op = 4 then fitsW d.c0 d.c1 d.c2 d.c3 i.imm || decide (i.imm = 2 ^ d.c1.toNat) else true) = true := by
    split
    · rename_i ho
      rcases h5 (by rcases ho with h | h | h; exact .inl h; exact .inr h; exact absurd h h3) with h | h
      · rw [h]; rfl
      · rw [decide_eq_true h, Bool.or_true]
    · rfl
  unfold suitB fitI
  rw [h1, e1, e2]; rfl
theorem comp_valid {d : PrgD} {st out : Int} {ns : List (List (Int × Int))} {nx : List Int} (h : NetV d.c0 d.c1 d.c2 d.c3 st out ns nx) (hw : okWD d = true) (hr : d.rg = []) (hcode : d.code = compC st out ns nx) (hl : (compC st out ns nx).length ≤ 512) : validB d = true := by
  obtain ⟨b1, b2, b3⟩ := body_good h
  have ha := adv_good h b1 ⟨b2, b3⟩
  obtain ⟨B, hB⟩ : ∃ B, (advF (bodyC st out ns).1 (bodyC st out ns).2 nx).code = B := ⟨_, rfl⟩
  have hc : d.code = B ++ [⟨0, 0, 0, 0⟩] := by rw [hcode]; unfold compC; rw [hB]
  rw [hB] at ha
  have hlen : d.code.length = B.length + 1 := by rw [hc]; simp
  have hl' : d.code.length ≤ 512 := by rw [hcode]; exact hl
  have hring : ringsB d.rg = true := by rw [hr]; rfl
  have hin : inB d.code.length 1 512 = true := inB_iff.2 (by omega)
  have hall : (List.range d.code.length).all (goodAt d) = true := by
    refine List.all_eq_true.2 fun k hk => ?_
    have hk := List.mem_range.1 hk
    unfold goodAt
    by_cases hkB : k < B.length
    · have e : d.code.getD k Ins.zero = B[k] := by
        rw [hc, List.getD_eq_getElem?_getD, List.getElem?_append_left hkB, List.getElem?_eq_getElem hkB]; rfl
      have hg := ha B[k] (List.getElem_mem hkB)
      rw [e, gd_suit hr hg, decide_eq_false hg.2.1, decide_eq_false (by omega : ¬ k + 1 = d.code.length)]; rfl
    · obtain rfl : k = B.length := by omega
      have e : d.code.getD B.length Ins.zero = ⟨0, 0, 0, 0⟩ := by
        rw [hc, List.getD_eq_getElem?_getD, List.getElem?_append_right (Nat.le_refl _), Nat.sub_self]; rfl
      rw [e, decide_eq_true (by rw [hlen] : B.length + 1 = d.code.length)]
      have : suitB d ⟨0, 0, 0, 0⟩ = true := by unfold suitB fitI; rfl
      rw [this]; rfl
  unfold validB
  rw [hw, hring, hin, hall]; rfl
end Go.Proofs.YtdiflpbioohddaaDoor
end
