/- Several texts in one: V1 V2 V3 V4 V5 V6 V7 V8 V9 Ve Va Vb Vc. -/
import Derived.Test.YtpmbgcfnehplaaaDoorPq
import Derived.Test.YtpmbgcfnehplaaaDoorPr
import Derived.Deep.RegionHeld3
import Derived.Deep.RegionLaw
import Derived.Maps.AppendAt
import Derived.Defers
import Derived.Handy
import Derived.Deep.DeepCutAuto
section
/- The walks of around and change of package bank. -/
set_option linter.unusedVariables false
set_option linter.unusedSimpArgs false
namespace Go.Proofs.YtpmbgcfnehplaaaDoor
open Go.RowKit

/-! ### Words for memory: one block is written -/
theorem grown_refl (w : World) (r : Option Nat) : w.grownBy w r := ⟨rfl, rfl, rfl, Nat.le_refl _, fun _ _ _ => rfl⟩
theorem grown_drew {a w : World} {r : Option Nat} (h : a.grownBy w r) : a.grownBy w.drew r := ⟨h.os, h.tape, h.output, h.size, h.block⟩
theorem grown_below {a w w' : World} {r : Option Nat} (h : a.grownBy w r) (hb : Below w.heap.size w w') : a.grownBy w' r :=
  ⟨hb.os.trans h.os, hb.tape.trans h.tape, hb.output.trans h.output, Nat.le_trans h.size hb.size, fun k hk hr => (hb.block k (Nat.lt_of_lt_of_le hk h.size)).trans (h.block k hk hr)⟩
theorem grown_set {a w : World} {g k : Nat} {u : Value} (h : a.grownBy w (some g)) : a.grownBy (w.setCell ⟨g, k, none⟩ u) (some g) :=
  h.trans ⟨rfl, rfl, rfl, by simp [World.setCell], fun i _ hr => Below.heap_setCell w _ u i (by show i ≠ g; intro e; exact hr (by rw [e]))⟩
theorem grown_to {w a w' : World} {g : Nat} (h0 : Below w.heap.size w a) (h : a.grownBy w' (some g)) (hg : w.heap.size ≤ g) : Below w.heap.size w w' :=
  h0.trans ⟨h.os, h.tape, h.output, h.size, fun k hk => h.block k (Nat.lt_of_lt_of_le hk h0.size) (by intro e; injection e with e; omega)⟩
theorem Ints.kept {w w' : World} {A : Option Addr} {l : List Int} {r : Option Nat} (h : Ints w A l) (hg : w.grownBy w' r) (hne : l ≠ [] → ∀ ad, A = some ad → some ad.block ≠ r) : Ints w' A l := by
  refine ⟨fun k v hk => ?_, h.2⟩
  obtain ⟨ad, e, h1, h2⟩ := h.1 k v hk
  exact ⟨ad, e, Nat.lt_of_lt_of_le h1 hg.size, hg.cell h2 (by rw [block_add]; exact hne (by intro hc; rw [hc] at hk; simp at hk) ad e)⟩
theorem Ints.block {w : World} {A : Option Addr} {l : List Int} (h : Ints w A l) (hl : l ≠ []) {ad : Addr} (e : A = some ad) : ad.block < w.heap.size := by
  obtain ⟨ad', x, e', hb, _⟩ := h.at_ (k := 0) (List.length_pos_iff.2 hl)
  rw [e] at e'; injection e' with e'; rw [e']; exact hb
theorem boxK {a w' : World} {g k : Nat} {v : Value} (h : a.grownBy w' (some g)) (hc : a.cell? ⟨k, 3, none⟩ = some v) (hne : k ≠ g) : w'.cell? ⟨k, 3, none⟩ = some v := h.cell hc (by intro e; injection e with e; exact hne e)

/-- A step is permitted. -/
def LftOk (s : Lft) : Prop := s.2.2.1.length ≤ 8 ∧ 0 ≤ s.2.2.2 ∧ s.2.2.2 ≤ 20 ∧ -8 ≤ s.2.1 ∧ s.2.1 ≤ 8 ∧ ∀ x ∈ s.2.2.1, -4096 ≤ x ∧ x ≤ 4096
theorem chS_bound {c o : List Int} {st : Int} {n : Nat} (hc : ∀ x ∈ c, -4096 ≤ x ∧ x ≤ 4096) (ho : W32 o) : ∀ k : Nat, -(8796093022208 * (k : Int)) ≤ chS c st o n k ∧ chS c st o n k ≤ 8796093022208 * (k : Int) := by
  intro k
  induction k with
  | zero => simp [chS]
  | succ k ih =>
    have h1 : -4096 ≤ el c k ∧ el c k ≤ 4096 := el_bound (by decide) hc k
    have h2 := w32_el ho (((n : Int) + st + k) % (o.length : Int)).toNat
    have := mul_bound (x := el c k) (y := el o (((n : Int) + st + k) % (o.length : Int)).toNat) (B := 4096) (C := 2147483648) h1 ⟨h2.1, by omega⟩
    unfold chS
    omega
theorem step_bound {s sh : Int} (hs : -70368744177664 ≤ s ∧ s ≤ 70368744177664) (h0 : 0 ≤ sh) (h1 : sh ≤ 20) : -70368744177664 ≤ shiftF s sh 1 ∧ shiftF s sh 1 ≤ 70368744177664 := by
  rw [shift_down h0 (by omega)]
  have hp := pow_pos' sh.toNat
  generalize (2 : Int) ^ sh.toNat = P at *
  constructor
  · have : -70368744177664 * P ≤ s := by
      have : (70368744177664 : Int) * 1 ≤ 70368744177664 * P := Int.mul_le_mul_of_nonneg_left hp (by decide)
      rw [Int.neg_mul]; omega
    exact (Int.le_ediv_iff_mul_le (by omega)).2 this
  · rcases Int.lt_or_le s 0 with h | h
    · have := Int.ediv_neg_of_neg_of_pos h (by omega : 0 < P); omega
    · have := Int.ediv_le_self P h; omega
end Go.Proofs.YtpmbgcfnehplaaaDoor
end
section
/- Slices of steps; the walk of Valid of package bank. -/
set_option linter.unusedVariables false
set_option linter.unusedSimpArgs false
namespace Go.Proofs.YtpmbgcfnehplaaaDoor
open Go.RowKit

/-- A slice of steps that reads as the list. -/
def Lifts (w : World) (A : Option Addr) (ls : List Lft) : Prop :=
  ∀ k s, ls[k]? = some s → ∃ ad C c, A = some ad ∧ ad.block < w.heap.size ∧ w.cell? (ad.add (k * 4)) = some (.bool s.1) ∧ w.cell? ⟨(ad.add (k * 4)).block, (ad.add (k * 4)).off + 1, none⟩ = some (.int .i64 s.2.1) ∧
    w.cell? ⟨(ad.add (k * 4)).block, (ad.add (k * 4)).off + 2, none⟩ = some (.slice C s.2.2.1.length c) ∧ w.cell? ⟨(ad.add (k * 4)).block, (ad.add (k * 4)).off + 3, none⟩ = some (.int .i64 s.2.2.2) ∧ Ints w C s.2.2.1 ∧ I64 s.2.1 ∧ I64 s.2.2.2
theorem Lifts.nil {w : World} {A : Option Addr} : Lifts w A [] := fun k s h => by simp at h
theorem Lifts.grow {w w' : World} {A : Option Addr} {ls : List Lft} (h : Lifts w A ls) (hb : Below w.heap.size w w') : Lifts w' A ls := fun k s hk => by
  obtain ⟨ad, C, c, e, h1, c0, c1, c2, c3, hi, i1, i2⟩ := h k s hk
  exact ⟨ad, C, c, e, Nat.lt_of_lt_of_le h1 hb.size, (hb.cell (by rw [block_add]; exact h1)).trans c0, (hb.cell (by show (ad.add _).block < _; rw [block_add]; exact h1)).trans c1, (hb.cell (by show (ad.add _).block < _; rw [block_add]; exact h1)).trans c2, (hb.cell (by show (ad.add _).block < _; rw [block_add]; exact h1)).trans c3, hi.grow hb, i1, i2⟩
/-- A coefficient, a step, a list of steps is permitted. -/
def cfB (x : Int) : Bool := inB x (-4096) 4096
def headB (s : Lft) : Bool := decide (s.2.2.1.length ≤ 8) && (inB s.2.2.2 0 20 && inB s.2.1 (-8) 8)
def lftB (s : Lft) : Bool := headB s && s.2.2.1.all cfB
def lftsB (ls : List Lft) : Bool := decide (ls.length ≤ 12) && ls.all lftB
theorem lftB_ok {s : Lft} (h : lftB s = true) : LftOk s := by
  unfold lftB headB at h
  simp only [Bool.and_eq_true, decide_eq_true_eq, inB_iff] at h
  obtain ⟨⟨h1, ⟨h2, h3⟩, h4, h5⟩, h6⟩ := h
  exact ⟨h1, h2, h3, h4, h5, fun x hx => inB_iff.1 (List.all_eq_true.1 h6 x hx)⟩
theorem lfts_ok {ls : List Lft} (h : lftsB ls = true) : ls.length ≤ 12 ∧ ∀ s ∈ ls, LftOk s := by
  unfold lftsB at h
  rw [Bool.and_eq_true, decide_eq_true_eq] at h
  exact ⟨h.1, fun s hs => lftB_ok (List.all_eq_true.1 h.2 s hs)⟩
theorem lfts_no {ls : List Lft} {k : Nat} {s : Lft} (hk : ls[k]? = some s) (h : lftB s = false) : lftsB ls = false := by
  unfold lftsB; rw [all_no hk h, Bool.and_false]
theorem head_iff {s : Lft} : headB s = true ↔ s.2.2.1.length ≤ 8 ∧ (0 ≤ s.2.2.2 ∧ s.2.2.2 ≤ 20) ∧ -8 ≤ s.2.1 ∧ s.2.1 ≤ 8 := by
  unfold headB; simp only [Bool.and_eq_true, decide_eq_true_eq, inB_iff]
end Go.Proofs.YtpmbgcfnehplaaaDoor
end
section
/- The walks of analyse and synthesise of package bank. -/
set_option linter.unusedVariables false
set_option linter.unusedSimpArgs false
namespace Go.Proofs.YtpmbgcfnehplaaaDoor
open Go.RowKit

/-- The first k elements of a list, zeros behind them. -/
def prN (l : List Int) (k : Nat) : List Int := (List.range l.length).map fun i => if i < k then el l i else 0
theorem prN_length (l : List Int) (k : Nat) : (prN l k).length = l.length := by simp [prN]
theorem prN_get {l : List Int} {k i : Nat} (h : i < l.length) : (prN l k)[i]? = some (if i < k then el l i else 0) := by
  simp only [prN, List.getElem?_map, List.getElem?_range h]; rfl
theorem prN_zero (l : List Int) : prN l 0 = List.replicate l.length 0 := by
  refine list_ext (by rw [prN_length]; simp) fun i hi => ?_
  rw [prN_length] at hi
  rw [el_of (prN_get hi), if_neg (by omega)]
  unfold el; rw [List.getElem?_replicate, if_pos hi]; rfl
theorem prN_all (l : List Int) : prN l l.length = l := by
  refine list_ext (prN_length _ _) fun i hi => ?_
  rw [prN_length] at hi
  rw [el_of (prN_get hi), if_pos hi]
theorem prN_at {l : List Int} {k : Nat} (h : k < l.length) : (prN l k)[k]? = some 0 := by rw [prN_get h, if_neg (by omega)]
theorem prN_succ {l : List Int} {k : Nat} (h : k < l.length) : prN l (k + 1) = (prN l k).set k (el l k) := by
  apply List.ext_getElem?
  intro n
  rw [List.getElem?_set, prN_length]
  rcases Nat.lt_or_ge n l.length with hn | hn
  · rw [prN_get hn, prN_get hn]
    by_cases e : k = n
    · subst e; rw [if_pos rfl, if_pos h, if_pos (by omega)]
    · rw [if_neg e]
      congr 1
      by_cases h1 : n < k
      · rw [if_pos h1, if_pos (by omega)]
      · rw [if_neg h1, if_neg (by omega)]
  · rw [if_neg (by omega), List.getElem?_eq_none (by rw [prN_length]; exact hn), List.getElem?_eq_none (by rw [prN_length]; exact hn)]
theorem ana_succ {ls : List Lft} {k : Nat} {s : Lft} (h : ls[k]? = some s) (p : List Int × List Int) : anaF (ls.take (k + 1)) p = lift1 1 (anaF (ls.take k) p) s := by
  unfold anaF
  rw [take_snoc' h, List.foldl_append]; rfl
theorem I64.w32 {l : List Int} (h : W32 l) {x : Int} (hx : x ∈ l) : I64 x := by have := h x hx; exact ⟨by omega, by omega⟩
theorem Own.kept {base : Nat} {w w' : World} {v : Value} {l : List Int} {r : Option Nat} (h : Own base w v l) (hg : w.grownBy w' r) (hne : v.ownBlock = none ∨ v.ownBlock ≠ r) : Own base w' v l := ⟨h.1.kept hg hne, h.2⟩
theorem Own.ints {base : Nat} {w : World} {A : Option Addr} {n c : Nat} {l : List Int} (h : Own base w (.slice A n c) l) : Ints w A l := by
  obtain ⟨A', c', e, _, hi⟩ := h.form
  injection e with e
  rw [e]; exact hi
theorem Own.len {base : Nat} {w : World} {A : Option Addr} {n c : Nat} {l : List Int} (h : Own base w (.slice A n c) l) : n = l.length := by
  obtain ⟨A', c', e, _, _⟩ := h.form
  injection e
theorem Own.other {base : Nat} {w : World} {g g' k n c : Nat} {l : List Int} {u : Value} (h : Own base w (.slice (some ⟨g, 0, none⟩) n c) l) (hne : g ≠ g') : Own base (w.setCell ⟨g', k, none⟩ u) (.slice (some ⟨g, 0, none⟩) n c) l :=
  h.kept (grown_set (grown_refl w (some g'))) (.inr (by show some g ≠ some g'; intro e; injection e with e; exact hne e))
theorem Own.kept_at {base : Nat} {w w' : World} {g g' n c : Nat} {l : List Int} (h : Own base w (.slice (some ⟨g, 0, none⟩) n c) l) (hg : w.grownBy w' (some g')) (hne : g ≠ g') : Own base w' (.slice (some ⟨g, 0, none⟩) n c) l :=
  h.kept hg (.inr (by show some g ≠ some g'; intro e; injection e with e; exact hne e))
/-- A call hands back two slices of its own that read as a and b. -/
def Ret2 (w : World) (a b : List Int) (e : Ending) (w' : World) : Prop := ∃ v1 v2, e = .returned (.tuple #[v1, v2]) ∧ Own w.heap.size w' v1 a ∧ Own w.heap.size w' v2 b ∧ Below w.heap.size w w'
end Go.Proofs.YtpmbgcfnehplaaaDoor
end
section
/- The walk of synthesise of package bank. -/
set_option linter.unusedVariables false
set_option linter.unusedSimpArgs false
namespace Go.Proofs.YtpmbgcfnehplaaaDoor
open Go.RowKit

theorem add_cell0 {b k : Nat} : (⟨b, 0, none⟩ : Addr).add k = ⟨b, k, none⟩ := by
  unfold Addr.add; by_cases h0 : k = 0 <;> simp [h0]
theorem syn_succ {ls : List Lft} {k : Nat} {s : Lft} (h : ls[k]? = some s) (p : List Int × List Int) : synF (ls.drop k) p = lift1 (-1) (synF (ls.drop (k + 1)) p) s := by
  have hk := (List.getElem?_eq_some_iff.1 h).1
  have e : ls.drop k = s :: ls.drop (k + 1) := by
    rw [List.drop_eq_getElem_cons hk]
    congr 1
    rw [List.getElem?_eq_getElem hk] at h
    injection h
  unfold synF
  rw [e, List.reverse_cons, List.foldl_append]; rfl
theorem Own.empty {w : World} {g : Nat} (hg : g = w.heap.size) : Own g (w.alloc (.cells #[] 3)) (.slice (some ⟨g, 0, none⟩) 0 0) [] := by
  subst hg
  refine ⟨⟨rfl, .inr ⟨w.heap.size, 0, #[], rfl, Nat.le_refl _, heap_alloc_new w _, Nat.le_refl _, by simp, by simp, by simp⟩⟩, by simp⟩
theorem Own.at_block {base : Nat} {w : World} {v : Value} {l : List Int} {g : Nat} (h : Own base w v l) (hv : v.ownBlock = some g) : ∃ cap, v = .slice (some ⟨g, 0, none⟩) l.length cap ∧ base ≤ g ∧ g < w.heap.size := by
  have h2 := h.1.lt g hv
  obtain ⟨_, ⟨rfl, _⟩ | ⟨g', cap, cur, rfl, _⟩⟩ := h.1
  · cases hv
  · have : some g' = some g := hv
    injection this with e
    subst e
    exact ⟨cap, rfl, h2⟩
end Go.Proofs.YtpmbgcfnehplaaaDoor
end
section
/- The walks of the checks of package bank: need, words, report. -/
set_option linter.unusedVariables false
set_option linter.unusedSimpArgs false
namespace Go.Proofs.YtpmbgcfnehplaaaDoor
open Go.RowKit

/-- The error that is kept, behind a test. -/
def needV (k : Int) (ok : Bool) (code : Int) : Int := if k = 0 ∧ ok = false then code else k
theorem need_true (k code : Int) : needV k true code = k := by unfold needV; rw [if_neg (by simp)]
theorem need_set {k code : Int} (h : k ≠ 0) (ok : Bool) : needV k ok code = k := by unfold needV; rw [if_neg (fun hc => h hc.1)]
theorem need_new (code : Int) : needV 0 false code = code := rfl
theorem need_need {k code : Int} (hc : code ≠ 0) (a b : Bool) : needV (needV k a code) b code = needV k (a && b) code := by
  by_cases hk : k = 0
  · subst hk
    cases a
    · rw [need_new, need_set hc, Bool.false_and, need_new]
    · rw [need_true, Bool.true_and]
  · rw [need_set hk, need_set hk, need_set hk]
/-- The cell of the check. -/
def CheckAt (w : World) (q : Nat) (k : Int) : Prop := w.cell? ⟨q, 0, none⟩ = some (.int .i64 k) ∧ w.frozen? ⟨q, 0, none⟩ = false
theorem CheckAt.keep {w w' : World} {q : Nat} {k : Int} (h : CheckAt w q k) (hb : Below w.heap.size w w') : CheckAt w' q k :=
  ⟨(hb.cell (cell_lt h.1)).trans h.1, (hb.frozen (p := ⟨q, 0, none⟩) (cell_lt h.1)).trans h.2⟩
theorem CheckAt.set {w : World} {q : Nat} {k : Int} (h : CheckAt w q k) (v : Int) : CheckAt (w.setCell ⟨q, 0, none⟩ (.int .i64 v)) q v := by
  obtain ⟨h1, h2⟩ := h
  exact ⟨by simp [go_sem, h1], by simpa using h2⟩
/-- What need, words hand back. -/
def NeedPost (w : World) (q : Nat) (k : Int) (e : Ending) (w' : World) : Prop := e = .returned (.bool (decide (k = 0))) ∧ CheckAt w' q k ∧ w.grownBy w' (some q)
/-- A slice of slices that lies outside a block. -/
def IntsFar (w : World) (q : Nat) (A : Option Addr) (ll : List (List Int)) : Prop :=
  ∀ k l, ll[k]? = some l → ∃ ad B c, A = some ad ∧ ad.block ≠ q ∧ w.cell? (ad.add k) = some (.slice B l.length c) ∧ Ints w B l ∧ (l ≠ [] → ∀ a, B = some a → a.block ≠ q)
theorem IntsFar.kept {w w' : World} {q : Nat} {A : Option Addr} {ll : List (List Int)} (h : IntsFar w q A ll) (hg : w.grownBy w' (some q)) : IntsFar w' q A ll := fun k l hk => by
  obtain ⟨ad, B, c, e, h1, h2, h3, h4⟩ := h k l hk
  exact ⟨ad, B, c, e, h1, hg.cell h2 (by rw [block_add]; intro e; injection e with e; exact h1 e), h3.kept hg (fun hl a ha e => by injection e with e; exact h4 hl a ha e), h4⟩
def wB (x : Int) : Bool := inB x (-2147483648) 2147483647
theorem wB_iff {l : List Int} : l.all wB = true ↔ W32 l := by
  constructor
  · intro h x hx
    have := inB_iff.1 (List.all_eq_true.1 h x hx); omega
  · intro h
    refine List.all_eq_true.2 fun x hx => inB_iff.2 ?_
    have := h x hx; omega
end Go.Proofs.YtpmbgcfnehplaaaDoor
end
section
/- The walks of report and Analyse of package bank. -/
set_option linter.unusedVariables false
set_option linter.unusedSimpArgs false
namespace Go.Proofs.YtpmbgcfnehplaaaDoor
open Go.RowKit

def evenB (n : Nat) : Bool := (n : Int) % 2 == 0
def anE (ls : List Lft) (x : List Int) : Int := needV (needV (needV (needV 0 (lftsB ls) 2) (evenB x.length) 1) (decide (x.length ≤ 4096)) 4) (x.all wB) 17
def anLo (ls : List Lft) (x : List Int) : List Int := if anE ls x = 0 then (analyseF ls x).1 else []
def anHi (ls : List Lft) (x : List Int) : List Int := if anE ls x = 0 then (analyseF ls x).2 else []
theorem need_zero {k c : Int} {b : Bool} (hc : c ≠ 0) (h : needV k b c = 0) : k = 0 ∧ b = true := by
  unfold needV at h
  split at h
  · exact absurd h hc
  · refine ⟨h, ?_⟩
    cases b
    · rename_i hn; exact absurd ⟨h, rfl⟩ hn
    · rfl
theorem anE_zero {ls : List Lft} {x : List Int} (h : anE ls x = 0) : lftsB ls = true ∧ x.length = 2 * (x.length / 2) ∧ x.length ≤ 4096 ∧ W32 x := by
  unfold anE at h
  obtain ⟨h, h4⟩ := need_zero (by decide) h
  obtain ⟨h, h3⟩ := need_zero (by decide) h
  obtain ⟨h, h2⟩ := need_zero (by decide) h
  obtain ⟨_, h1⟩ := need_zero (by decide) h
  refine ⟨h1, ?_, of_decide_eq_true h3, wB_iff.1 h4⟩
  unfold evenB at h2
  rw [beq_iff_eq] at h2
  omega
theorem CheckAt.kept {w w' : World} {q r : Nat} {k : Int} (h : CheckAt w q k) (hg : w.grownBy w' (some r)) (hne : q ≠ r) : CheckAt w' q k :=
  ⟨hg.cell h.1 (by intro e; injection e with e; exact hne e), (World.frozen?_of_block (hg.block q (cell_lt h.1) (by intro e; injection e with e; exact hne e))).trans h.2⟩
theorem CheckAt.drew {w : World} {q : Nat} {k : Int} (h : CheckAt w q k) : CheckAt w.drew q k := h
theorem IntsFar.one {w : World} {q : Nat} {B : Option Addr} {l : List Int} {d : Nat} {t : TypeId} (h : Ints w B l) (hq : q < w.heap.size) (hb : l ≠ [] → ∀ a, B = some a → a.block ≠ q) :
    IntsFar (w.alloc (.cells #[.slice B l.length d] t)) q (some ⟨w.heap.size, 0, none⟩) [l] := fun k l' hk => by
  match k, hk with
  | 0, hk =>
    simp at hk
    subst hk
    exact ⟨_, B, d, rfl, by show w.heap.size ≠ q; omega, by simp [Addr.add, go_sem], h.grow ((Below.refl _ _).alloc (Nat.le_refl _) _), hb⟩
/-- A call hands back two slices of its own and an error. -/
def Ret3 (w : World) (a b : List Int) (E : Int) (e : Ending) (w' : World) : Prop := ∃ v1 v2, e = .returned (.tuple #[v1, v2, .int .i64 E]) ∧ Own w.heap.size w' v1 a ∧ Own w.heap.size w' v2 b ∧ Below w.heap.size w w'
end Go.Proofs.YtpmbgcfnehplaaaDoor
end
section
/- The walk of Synthesise of package bank. -/
set_option linter.unusedVariables false
set_option linter.unusedSimpArgs false
namespace Go.Proofs.YtpmbgcfnehplaaaDoor
open Go.RowKit

def syE (ls : List Lft) (a b : List Int) : Int := needV (needV (needV (needV 0 (lftsB ls) 2) ((a.length : Int) == (b.length : Int)) 1) (decide (a.length + b.length ≤ 4096)) 4) (a.all wB && b.all wB) 17
def syX (ls : List Lft) (a b : List Int) : List Int := if syE ls a b = 0 then synthF ls a b else []
theorem syE_zero {ls : List Lft} {a b : List Int} (h : syE ls a b = 0) : lftsB ls = true ∧ a.length = b.length ∧ a.length + b.length ≤ 4096 ∧ W32 a ∧ W32 b := by
  unfold syE at h
  obtain ⟨h, h4⟩ := need_zero (by decide) h
  obtain ⟨h, h3⟩ := need_zero (by decide) h
  obtain ⟨h, h2⟩ := need_zero (by decide) h
  obtain ⟨_, h1⟩ := need_zero (by decide) h
  rw [Bool.and_eq_true] at h4
  refine ⟨h1, ?_, of_decide_eq_true h3, wB_iff.1 h4.1, wB_iff.1 h4.2⟩
  rw [beq_iff_eq] at h2
  omega
theorem IntsFar.two {w : World} {q : Nat} {A B : Option Addr} {a b : List Int} {c d : Nat} {t : TypeId} (h : Ints w A a) (k : Ints w B b) (hq : q < w.heap.size) (ha : a ≠ [] → ∀ p, A = some p → p.block ≠ q) (hb : b ≠ [] → ∀ p, B = some p → p.block ≠ q) :
    IntsFar (w.alloc (.cells #[.slice A a.length c, .slice B b.length d] t)) q (some ⟨w.heap.size, 0, none⟩) [a, b] := fun n l' hk => by
  match n, hk with
  | 0, hk =>
    simp at hk
    subst hk
    exact ⟨_, A, c, rfl, by show w.heap.size ≠ q; omega, by simp [Addr.add, go_sem], h.grow ((Below.refl _ _).alloc (Nat.le_refl _) _), ha⟩
  | 1, hk =>
    simp at hk
    subst hk
    exact ⟨_, B, d, rfl, by show w.heap.size ≠ q; omega, by simp [Addr.add, go_sem], k.grow ((Below.refl _ _).alloc (Nat.le_refl _) _), hb⟩
end Go.Proofs.YtpmbgcfnehplaaaDoor
end
section
/- The walks of wide and known of law 33. -/
set_option linter.unusedVariables false
set_option linter.unusedSimpArgs false
namespace Go.Proofs.YtpmbgcfnehplaaaDoor
open Go.RowKit

def wdF (x : List Int) (k : Nat) : List Int := (List.range k).map fun i => wrapF 32 (el x i)
theorem wdF_length (x : List Int) (k : Nat) : (wdF x k).length = k := by simp [wdF]
theorem wdF_succ (x : List Int) (k : Nat) : wdF x (k + 1) = wdF x k ++ [wrapF 32 (el x k)] := by simp [wdF, List.range_succ]
theorem wdF_w32 (x : List Int) (k : Nat) : W32 (wdF x k) := by
  intro y hy
  obtain ⟨i, _, rfl⟩ := List.mem_map.1 hy
  exact w32_wrap _
def wdN (x : List Int) : Nat := min (2 * (x.length / 2)) 40
theorem wdN_even (x : List Int) : ∃ h, wdN x = 2 * h ∧ h ≤ 20 := ⟨min (x.length / 2) 20, by unfold wdN; omega, by omega⟩

theorem add_cellsB (g k : Nat) : (⟨g, 0, none⟩ : Addr).add k = ⟨g, k, none⟩ := by
  unfold Addr.add
  by_cases h0 : k = 0 <;> simp [h0]
theorem litB {w : World} {cs : Array Value} {t : TypeId} {l : List Int} (hc : cs.toList = l.map (Value.int .i64)) (hl : l.all (fun x => decide (-9223372036854775808 ≤ x) && decide (x ≤ 9223372036854775807)) = true) : Ints (w.alloc (.cells cs t)) (some ⟨w.heap.size, 0, none⟩) l := by
  refine ⟨?_, fun x hx => by have := List.all_eq_true.1 hl x hx; simp at this; exact this⟩
  rw [← hc]
  intro k v hk
  refine ⟨_, rfl, by simp, ?_⟩
  rw [add_cellsB]
  simpa [go_sem] using hk
theorem belowA {W w : World} {o : Obj} (h : Below W.heap.size W w) : Below W.heap.size W (w.alloc o) := h.alloc h.size _
theorem litBn {w : World} {n : Nat} {cs : Array Value} {t : TypeId} {l : List Int} (hn : n = w.heap.size) (hc : cs.toList = l.map (Value.int .i64)) (hl : l.all (fun x => decide (-9223372036854775808 ≤ x) && decide (x ≤ 9223372036854775807)) = true) : Ints (w.alloc (.cells cs t)) (some ⟨n, 0, none⟩) l := by
  subst hn; exact litB hc hl
end Go.Proofs.YtpmbgcfnehplaaaDoor
end
section
/- Rows of lifting steps of the call's own; the plain form of Steps.Lifts. -/
set_option linter.unusedVariables false
set_option linter.unusedSimpArgs false
namespace Go.Proofs.YtpmbgcfnehplaaaDoor
open Go.RowKit

def elB (l : List Bool) (i : Nat) : Bool := (l[i]?).getD false
def mkL (os : List Bool) (st cf sh : List Int) (i : Nat) : Lft :=
  (elB os i, withinF (atF st i) 17 - 8, belowF 4096 [atF cf (3 * i), atF cf (3 * i + 1), atF cf (3 * i + 2)] (withinF (atF cf i) 4).toNat, withinF (atF sh i) 8)
def lftsF (os : List Bool) (st cf sh : List Int) (k : Nat) : List Lft := (List.range k).map (mkL os st cf sh)
theorem lftsF_length (os : List Bool) (st cf sh : List Int) (k : Nat) : (lftsF os st cf sh k).length = k := by simp [lftsF]
theorem lftsF_succ (os : List Bool) (st cf sh : List Int) (k : Nat) : lftsF os st cf sh (k + 1) = lftsF os st cf sh k ++ [mkL os st cf sh k] := by simp [lftsF, List.range_succ]
theorem mkL_ok (os : List Bool) (st cf sh : List Int) (i : Nat) : lftB (mkL os st cf sh i) = true ∧ (mkL os st cf sh i).2.2.1.length ≤ 3 := by
  have a := within_in (m := 17) (by omega) (atF st i)
  have b := within_in (m := 8) (by omega) (atF sh i)
  have c := within_in (m := 4) (by omega) (atF cf i)
  have hl : (mkL os st cf sh i).2.2.1.length ≤ 3 := by unfold mkL; simp only [belowF_length]; omega
  refine ⟨?_, hl⟩
  unfold lftB headB
  simp only [Bool.and_eq_true, decide_eq_true_eq, inB_iff]
  refine ⟨⟨by omega, ⟨?_, ?_⟩, ?_, ?_⟩, ?_⟩
  · exact b.1
  · show withinF (atF sh i) 8 ≤ 20; omega
  · show -8 ≤ withinF (atF st i) 17 - 8; omega
  · show withinF (atF st i) 17 - 8 ≤ 8; omega
  · refine List.all_eq_true.2 fun x hx => ?_
    unfold mkL at hx
    simp only [belowF] at hx
    obtain ⟨j, _, rfl⟩ := List.mem_map.1 hx
    have := within_in (m := 2 * 4096 + 1) (by omega) (wrap64 (atF [atF cf (3 * i), atF cf (3 * i + 1), atF cf (3 * i + 2)] (j : Int) + 4096))
    unfold cfB
    rw [inB_iff]
    omega
theorem lftsF_ok (os : List Bool) (st cf sh : List Int) (k : Nat) (hk : k ≤ 5) : lftsB (lftsF os st cf sh k) = true := by
  unfold lftsB
  rw [Bool.and_eq_true, decide_eq_true_eq, lftsF_length]
  refine ⟨by omega, List.all_eq_true.2 fun s hs => ?_⟩
  obtain ⟨i, _, rfl⟩ := List.mem_map.1 hs
  exact (mkL_ok _ _ _ _ i).1
theorem own_cells {base n c size : Nat} {e : TypeId} {A : Option Addr} {w : World} {xs : List Value} (h : w.ownsRow base e size (.slice A n c) n xs) {k : Nat} {v : Value} (hk : xs[k]? = some v) :
    ∃ g, A = some ⟨g, 0, none⟩ ∧ g < w.heap.size ∧ w.cell? ⟨g, k, none⟩ = some v := by
  obtain ⟨h1, h2 | ⟨g, cap, cur, hv, hg, hh, _, _, hs, ht⟩⟩ := h
  · obtain ⟨_, rfl⟩ := h2
    have : xs = [] := List.length_eq_zero_iff.1 (by omega)
    subst this; simp at hk
  · injection hv with hA _ _
    have hlt : g < w.heap.size := by
      rcases Nat.lt_or_ge g w.heap.size with h | h
      · exact h
      · rw [Array.getElem?_eq_none h] at hh; cases hh
    refine ⟨g, hA, hlt, ?_⟩
    rw [← ht, List.getElem?_take] at hk
    split at hk
    · simp [World.cell?, hh] 
      simpa using hk
    · cases hk
end Go.Proofs.YtpmbgcfnehplaaaDoor
end
section
/- Rows of bands of the call's own: slices of slices of numbers that grow by append. -/
set_option linter.unusedVariables false
set_option linter.unusedSimpArgs false
namespace Go.Proofs.YtpmbgcfnehplaaaDoor
open Go.RowKit

/-- v is a slice of slices of the call's own that reads as ll; the numbers lie in other blocks. -/
def OwnB (base : Nat) (w : World) (v : Value) (ll : List (List Int)) : Prop :=
  ∃ cs : List Value, w.ownsRow base 22 1 v ll.length cs ∧ ∀ (k : Nat) l, ll[k]? = some l → ∃ C c, cs[k]? = some (.slice C l.length c) ∧ Ints w C l ∧ (l ≠ [] → ∀ a, C = some a → base ≤ a.block ∧ some a.block ≠ v.ownBlock)
theorem OwnB.nil {base : Nat} {w : World} : OwnB base w (.slice none 0 0) [] := ⟨[], World.ownsRow_nil _ _ _ _, fun k s h => by simp at h⟩
theorem OwnB.grow {base : Nat} {w w' : World} {v : Value} {ll : List (List Int)} (h : OwnB base w v ll) (hb : Below w.heap.size w w') : OwnB base w' v ll := by
  obtain ⟨cs, h1, h2⟩ := h
  refine ⟨cs, own_grow h1 hb, fun k s hk => ?_⟩
  obtain ⟨C, c, c0, hi, hn⟩ := h2 k s hk
  exact ⟨C, c, c0, hi.grow hb, hn⟩
theorem OwnB.base {base base' : Nat} {w : World} {v : Value} {ll : List (List Int)} (h : OwnB base w v ll) (hb : base' ≤ base) : OwnB base' w v ll := by
  obtain ⟨cs, h1, h2⟩ := h
  refine ⟨cs, own_base h1 hb, fun k s hk => ?_⟩
  obtain ⟨C, c, c0, hi, hn⟩ := h2 k s hk
  exact ⟨C, c, c0, hi, fun hl a ha => ⟨Nat.le_trans hb (hn hl a ha).1, (hn hl a ha).2⟩⟩
theorem Ints.other {w : World} {g k : Nat} {C : Option Addr} {l : List Int} {u : Value} (h : Ints w C l) (hn : l ≠ [] → ∀ a, C = some a → a.block ≠ g) : Ints (w.setCell ⟨g, k, none⟩ u) C l :=
  h.kept (grown_set (grown_refl w (some g))) (fun hl a ha e => by injection e with e; exact hn hl a ha e)
theorem OwnB.store {base g k : Nat} {w : World} {v u : Value} {ll : List (List Int)} (h : OwnB base w v ll) (hg : g < base) : OwnB base (w.setCell ⟨g, k, none⟩ u) v ll := by
  obtain ⟨cs, h1, h2⟩ := h
  refine ⟨cs, own_store h1 hg, fun k s hk => ?_⟩
  obtain ⟨C, c, c0, hi, hn⟩ := h2 k s hk
  exact ⟨C, c, c0, hi.other (fun hl a ha => by have := (hn hl a ha).1; omega), hn⟩
theorem OwnB.lt {base : Nat} {w : World} {v : Value} {ll : List (List Int)} (h : OwnB base w v ll) : ∀ b, v.ownBlock = some b → base ≤ b ∧ b < w.heap.size := fun b hb => by
  obtain ⟨cs, h1, _⟩ := h
  exact h1.lt b hb
theorem OwnB.form {base : Nat} {w : World} {v : Value} {ll : List (List Int)} (h : OwnB base w v ll) : ∃ A c, v = .slice A ll.length c ∧ IntsL w A ll := by
  obtain ⟨cs, h1, h2⟩ := h
  obtain ⟨A, c, rfl, _⟩ := own_form h1
  refine ⟨A, c, rfl, fun k l hk => ?_⟩
  obtain ⟨C, d, c0, hi, _⟩ := h2 k l hk
  obtain ⟨g, e0, hg, d0⟩ := own_cells h1 c0
  exact ⟨_, C, d, e0, hg, by rw [add_cellsB]; exact d0, hi⟩
theorem app_band {ops : Array Oper} {rest : List Oper} {o : Oper} {a : Act} {Q : Exit → Act → World → Prop} (W : World) (hgd : o.guard = none) (s x : Operand) (ho : o.op = .call { callee := .builtin .append, args := #[s, x], argTypes := #[65, 65] })
    (base : Nat) {v : Value} {ll : List (List Int)} {l : List Int} {n : Nat} {C : Option Addr} {c : Nat} (hown : OwnB base W v ll) (hs : a.eval s = v) (hx : a.eval x = .slice (some ⟨W.heap.size, 0, none⟩) 1 1) (hln : l.length = n) (hC : Ints W C l) (hne : l ≠ [] → ∀ a, C = some a → base ≤ a.block ∧ some a.block ≠ v.ownBlock)
    (hn : ll.length ≤ 1000) (hbase : base ≤ W.heap.size)
    (h : ∀ v' w', OwnB base w' v' (ll ++ [l]) → Below base W w' → (W.alloc (.cells #[.slice C n c] 22)).grownBy w' v.ownBlock → (v'.ownBlock = v.ownBlock ∨ v'.ownBlock = some (W.heap.size + 1)) → wpList Tryd.prog ops Q rest (a.put o.dst v') w') :
    wpList Tryd.prog ops Q (o :: rest) a (W.alloc (.cells #[.slice C n c] 22)) := by
  subst hln
  obtain ⟨i0, hi, hz0, hz1, hz2⟩ := info_parts info_ints
  obtain ⟨cs, hr, hcs⟩ := hown
  have hba := (Below.refl W.heap.size W).alloc (Nat.le_refl _) (.cells #[.slice C l.length c] 22)
  have hb0 := (Below.refl base W).alloc hbase (.cells #[.slice C l.length c] 22)
  obtain ⟨v', w', hrun, hr', hg, _, hob⟩ := run_append_own_at (P := Tryd.prog) (W.alloc (.cells #[.slice C l.length c] 22)) base 65 o.type 22 i0 _ 1 24 Tryd.underlying65 hi hz0 hz1 hz2 rfl (by decide) v ll.length cs (hr.alloc _) ⟨W.heap.size, 0, none⟩ 1 1 [.slice C l.length c] rfl
    (fun j u hu => by
      rw [add_cellsB]
      match j, hu with
      | 0, hu => simp at hu; subst hu; simp [go_sem])
    (fun u hu => by simp at hu; subst hu; rfl) (by unfold maxLen; omega) (by omega) (by simp; omega)
  refine wpList_plain hgd fun K hK => ?_
  unfold Oper.wp execOp
  simp only [ho, resolve, invoke, builtin, Sem.run_bind, Sem.run_pure, Result.andThen_ok, List.map_toArray, List.map_cons, List.map_nil, hs, hx, hrun]
  refine hK _ _ (h v' w' ?_ ?_ hg (by rcases hob with h1 | h1; exact .inl h1; exact .inr (by rw [h1]; simp)))
  · have keep : ∀ (C : Option Addr) (l : List Int), Ints W C l → (l ≠ [] → ∀ a, C = some a → base ≤ a.block ∧ some a.block ≠ v.ownBlock) → Ints w' C l ∧ (l ≠ [] → ∀ a, C = some a → base ≤ a.block ∧ some a.block ≠ v'.ownBlock) := fun C l hI hn => by
      refine ⟨(hI.grow hba).kept hg (fun hl a ha => (hn hl a ha).2), fun hl a ha => ⟨(hn hl a ha).1, fun e => ?_⟩⟩
      rcases hob with h1 | h1
      · exact (hn hl a ha).2 (e.trans h1)
      · rw [h1] at e
        injection e with e
        have := hI.block hl ha
        simp at e
        omega
    refine ⟨cs ++ [.slice C l.length c], by rw [List.length_append]; exact hr', fun k s hk => ?_⟩
    have hlen := hr.1
    rw [List.getElem?_append] at hk
    split at hk
    · rename_i hlt
      obtain ⟨C', c', c0, hI, hn'⟩ := hcs k s hk
      obtain ⟨k1, k2⟩ := keep C' _ hI hn'
      refine ⟨C', c', ?_, k1, k2⟩
      rw [List.getElem?_append_left (by omega)]; assumption
    · rename_i hlt
      have hk0 : k = ll.length := by
        rcases Nat.lt_or_ge (k - ll.length) 1 with h | h
        · omega
        · rw [List.getElem?_eq_none (by simpa using h)] at hk; cases hk
      subst hk0
      simp at hk
      subst hk
      obtain ⟨k1, k2⟩ := keep C _ hC hne
      refine ⟨C, c, ?_, k1, k2⟩
      rw [List.getElem?_append_right (by omega), show ll.length - cs.length = 0 by omega]; rfl
  · exact hb0.grown hg (by simp; omega) (fun k hk => (hr.lt k hk).1)
end Go.Proofs.YtpmbgcfnehplaaaDoor
end
section
/- The walk of Steps.Lifts. -/
set_option linter.unusedVariables false
set_option linter.unusedSimpArgs false
namespace Go.Proofs.YtpmbgcfnehplaaaDoor
open Go.RowKit

/-- A slice of Booleans that reads as l. -/
def Bools (w : World) (A : Option Addr) (l : List Bool) : Prop := Row w w.heap.size A (l.map Value.bool)
theorem Bools.grow {w w' : World} {A : Option Addr} {l : List Bool} (h : Bools w A l) (hb : Below w.heap.size w w') : Bools w' A l := fun k v hk => by
  obtain ⟨ad, e, h1, h2⟩ := h k v hk
  exact ⟨ad, e, Nat.lt_of_lt_of_le h1 hb.size, (hb.cell (by rw [block_add]; exact h1)).trans h2⟩
/-- Four cells of a step that can be written. -/
def StepAt (w : World) (g : Nat) (b : Bool) (st sh : Int) (C : Option Addr) (n c : Nat) : Prop :=
  g < w.heap.size ∧ w.cell? ⟨g, 0, none⟩ = some (.bool b) ∧ w.cell? ⟨g, 1, none⟩ = some (.int .i64 st) ∧ w.cell? ⟨g, 2, none⟩ = some (.slice C n c) ∧ w.cell? ⟨g, 3, none⟩ = some (.int .i64 sh) ∧ w.frozen? ⟨g, 2, none⟩ = false
theorem StepAt.keep {w w' : World} {g : Nat} {b : Bool} {st sh : Int} {C : Option Addr} {n c : Nat} (h : StepAt w g b st sh C n c) (hb : Below w.heap.size w w') : StepAt w' g b st sh C n c := by
  obtain ⟨h0, h1, h2, h3, h4, h5⟩ := h
  exact ⟨Nat.lt_of_lt_of_le h0 hb.size, (hb.cell h0).trans h1, (hb.cell h0).trans h2, (hb.cell h0).trans h3, (hb.cell h0).trans h4, (hb.frozen (p := ⟨g, 2, none⟩) h0).trans h5⟩
theorem StepAt.set {w : World} {g : Nat} {b : Bool} {st sh : Int} {C D : Option Addr} {n c m d : Nat} (h : StepAt w g b st sh C n c) : StepAt (w.setCell ⟨g, 2, none⟩ (.slice D m d)) g b st sh D m d := by
  obtain ⟨h0, h1, h2, h3, h4, h5⟩ := h
  exact ⟨by simpa using h0, by simp [go_sem, h1], by simp [go_sem, h2], by simp [go_sem, h3], by simp [go_sem, h4], by simpa using h5⟩
theorem StepAt.new {a : World} {b : Bool} {st sh : Int} {C : Option Addr} {n c : Nat} {t : TypeId} : StepAt (a.alloc (.cells #[.bool b, .int .i64 st, .slice C n c, .int .i64 sh] t)).drew a.heap.size b st sh C n c :=
  ⟨by simp, by simp [go_sem], by simp [go_sem], by simp [go_sem], by simp [go_sem], by simp [go_sem]⟩
theorem StepAt.cell2 {w w' : World} {g : Nat} {b : Bool} {st sh : Int} {C : Option Addr} {n c : Nat} (h : Hid (StepAt w g b st sh C n c)) (hb : Below w.heap.size w w') : w'.cell? ⟨g, 2, none⟩ = some (.slice C n c) := (h.out.keep hb).2.2.2.1
theorem StepAt.free {w w' : World} {g : Nat} {b : Bool} {st sh : Int} {C : Option Addr} {n c : Nat} (h : Hid (StepAt w g b st sh C n c)) (hb : Below w.heap.size w w') : w'.frozen? ⟨g, 2, none⟩ = false := (h.out.keep hb).2.2.2.2.2
theorem cellS {a w' : World} {H B k : Nat} {v : Value} (hH : H < B) (hB : B ≤ a.heap.size) (S : Hid (a.cell? ⟨H, k, none⟩ = some v)) (b : Below a.heap.size a w') : w'.cell? ⟨H, k, none⟩ = some v := (b.cell (Nat.lt_of_lt_of_le hH hB)).trans S.out
theorem cellS2 {a w' : World} {H B k g : Nat} {v x : Value} (hH : H < B) (hB : B ≤ a.heap.size) (hg : B ≤ g) (S : Hid (a.cell? ⟨H, k, none⟩ = some v)) (b : Below a.heap.size a w') : (w'.setCell ⟨g, 2, none⟩ x).cell? ⟨H, k, none⟩ = some v := by
  rw [World.cell?_setCell_other _ _ _ _ (by intro hc; injection hc with hc; omega)]
  exact cellS hH hB S b
theorem ints3 {a : World} {x y z : Int} {t : TypeId} (h : I64 x ∧ I64 y ∧ I64 z) : Ints (a.alloc (.cells #[.int .i64 x, .int .i64 y, .int .i64 z] t)) (some ⟨a.heap.size, 0, none⟩) [x, y, z] := by
  refine litB rfl (List.all_eq_true.2 fun u hu => ?_)
  have hu2 : I64 u := by
    simp at hu
    rcases hu with rfl | rfl | rfl
    · exact h.1
    · exact h.2.1
    · exact h.2.2
  have u1 := hu2.1
  have u2 := hu2.2
  simp; omega
theorem ints3d {a : World} {x y z : Int} {t : TypeId} (h : I64 x ∧ I64 y ∧ I64 z) : Ints (a.alloc (.cells #[.int .i64 x, .int .i64 y, .int .i64 z] t)).drew (some ⟨a.heap.size, 0, none⟩) [x, y, z] := ints3 h
theorem Own.far {base n c : Nat} {w : World} {A : Option Addr} {l : List Int} (h : Own base w (.slice A n c) l) : ∀ a, A = some a → base ≤ a.block := fun a e => by subst e; exact (h.1.lt a.block rfl).1
theorem belowAD {a w' : World} {o : Obj} (h : Below (a.alloc o).drew.heap.size (a.alloc o).drew w') : Below a.heap.size a w' := ((Below.refl _ _).alloc (Nat.le_refl _) _).drew.trans (h.mono (by simp))
theorem sizeAD (a : World) (o : Obj) : a.heap.size ≤ (a.alloc o).drew.heap.size := by simp
theorem boxS {W w' : World} {B H : Nat} {v0 v1 v2 v3 : Value} (hH : H < B) (y : W.cell? ⟨H, 0, none⟩ = some v0 ∧ W.cell? ⟨H, 1, none⟩ = some v1 ∧ W.cell? ⟨H, 2, none⟩ = some v2 ∧ W.cell? ⟨H, 3, none⟩ = some v3) (h : Below B W w') :
    w'.cell? ⟨H, 0, none⟩ = some v0 ∧ w'.cell? ⟨H, 1, none⟩ = some v1 ∧ w'.cell? ⟨H, 2, none⟩ = some v2 ∧ w'.cell? ⟨H, 3, none⟩ = some v3 := by
  obtain ⟨y0, y1, y2, y3⟩ := y
  exact ⟨(h.cell hH).trans y0, (h.cell hH).trans y1, (h.cell hH).trans y2, (h.cell hH).trans y3⟩
theorem stepS {a w' : World} {H : Nat} {p : Addr} {x0 x1 x2 x3 y : Value} (hH : H < a.heap.size) (hp : p.block < a.heap.size) (S : Hid ((a.cell? ⟨H, 0, none⟩ = some x0 ∧ a.cell? ⟨H, 1, none⟩ = some x1 ∧ a.cell? ⟨H, 2, none⟩ = some x2 ∧ a.cell? ⟨H, 3, none⟩ = some x3) ∧ a.cell? p = some y)) (b : Below a.heap.size a w') :
    (w'.cell? ⟨H, 0, none⟩ = some x0 ∧ w'.cell? ⟨H, 1, none⟩ = some x1 ∧ w'.cell? ⟨H, 2, none⟩ = some x2 ∧ w'.cell? ⟨H, 3, none⟩ = some x3) ∧ w'.cell? p = some y := by
  obtain ⟨⟨y0, y1, y2, y3⟩, y4⟩ := S.out
  exact ⟨⟨(b.cell hH).trans y0, (b.cell hH).trans y1, (b.cell hH).trans y2, (b.cell hH).trans y3⟩, (b.cell hp).trans y4⟩
end Go.Proofs.YtpmbgcfnehplaaaDoor
end
section
/- The walk of the law BankReconstructs. -/
set_option linter.unusedVariables false
set_option linter.unusedSimpArgs false
namespace Go.Proofs.YtpmbgcfnehplaaaDoor
open Go.RowKit

theorem evenB_two (h : Nat) : evenB (2 * h) = true := by unfold evenB; simp
theorem lftsB_coefs {ls : List Lft} (h : lftsB ls = true) : ls.length ≤ 1000000 ∧ ∀ s ∈ ls, s.2.2.1.length ≤ 9223372036854775807 := by
  obtain ⟨h1, h2⟩ := Bool.and_eq_true _ _ ▸ h
  have h1 := of_decide_eq_true h1
  refine ⟨by omega, fun s hs => ?_⟩
  have := List.all_eq_true.1 h2 s hs
  obtain ⟨h3, _⟩ := Bool.and_eq_true _ _ ▸ this
  have := (head_iff.1 h3).1
  omega
/-- Two slices and no error. -/
def Got2 (w : World) (a b : List Int) (e : Ending) (w' : World) : Prop := ∃ A c B d, e = .returned (.tuple #[.slice A a.length c, .slice B b.length d, .int .i64 0]) ∧ Ints w' A a ∧ Ints w' B b ∧ Below w.heap.size w w'
/-- One slice and no error. -/
def Got1 (w : World) (a : List Int) (e : Ending) (w' : World) : Prop := ∃ A c, e = .returned (.tuple #[.slice A a.length c, .int .i64 0]) ∧ Ints w' A a ∧ Below w.heap.size w w'
theorem w32_analyse {ls : List Lft} {x : List Int} (hw : W32 x) : W32 (analyseF ls x).1 ∧ W32 (analyseF ls x).2 := w32_fold 1 ls _ ⟨w32_ev hw, w32_od hw⟩
theorem w32_synth {ls : List Lft} {a b : List Int} (ha : W32 a) (hb : W32 b) : W32 (synthF ls a b) := by
  have := w32_fold (-1) ls.reverse (a, b) ⟨ha, hb⟩
  exact w32_weave this.1 this.2
theorem w32_take {x : List Int} {h : Nat} (hw : W32 x) : W32 (x.take h) := fun y hy => hw y (List.mem_of_mem_take hy)
theorem w32_drop {x : List Int} {h : Nat} (hw : W32 x) : W32 (x.drop h) := fun y hy => hw y (List.mem_of_mem_drop hy)
theorem Ints.takeL {w : World} {B : Option Addr} {l : List Int} (h : Ints w B l) (k : Nat) : Ints w B (l.take k) := by
  refine ⟨fun j v hj => h.1 j v ?_, fun x hx => h.2 x (List.mem_of_mem_take hx)⟩
  rw [List.map_take, List.getElem?_take] at hj
  split at hj
  · exact hj
  · cases hj
theorem belowD {a w : World} (h : Below a.drew.heap.size a.drew w) : Below a.heap.size a w := (Below.refl a.heap.size a).drew.trans (h.mono (by simp))
theorem Ints.dropL {w : World} {B : Option Addr} {l : List Int} {c k : Nat} (h : Ints w B l) (hc : l.length ≤ c) : Ints w (if c = k then B else B.map (fun x => x.add k)) (l.drop k) := by
  refine ⟨fun j v hj => ?_, fun x hx => h.2 x (List.mem_of_mem_drop hx)⟩
  rw [List.map_drop, List.getElem?_drop] at hj
  obtain ⟨ad, e, h1, h2⟩ := h.1 (k + j) v hj
  have hlt : k + j < l.length := by have := (List.getElem?_eq_some_iff.1 hj).1; simpa using this
  rw [if_neg (by omega), e]
  exact ⟨ad.add k, rfl, by rw [block_add]; exact h1, by rw [add_add]; exact h2⟩
end Go.Proofs.YtpmbgcfnehplaaaDoor
end
section
/- The walk of the law BankTurns. -/
set_option linter.unusedVariables false
set_option linter.unusedSimpArgs false
namespace Go.Proofs.YtpmbgcfnehplaaaDoor
open Go.RowKit

/-- append(v, s...) as a step of a region that draws its order. -/
theorem step_app_ints {ops : Array Oper} {o : Oper} {a : Act} {K : Act → World → Prop} {Q : Exit → Act → World → Prop} {E : Prop} (W : World) (hw : Region.wanted o (yielded ops a.tmps) = true) (s x : Operand)
    (ho : o.op = .call { callee := .builtin .append, args := #[s, x], argTypes := #[22, 22] }) (base : Nat) (l m : List Int)
    (hown : Own base W (a.eval s) l) (hx : ∃ A n c, a.eval x = .slice A n c ∧ Ints W A m ∧ m.length = n) (hn : l.length + m.length ≤ 100000000) (hbase : base ≤ W.heap.size)
    (h : ∀ v' w', Own base w' v' (l ++ m) → W.grownBy w' (a.eval s).ownBlock → Below base W w' → K (a.put o.dst v') w') :
    if Region.wanted o (yielded ops a.tmps) = true then Oper.wp Tryd.prog o a W K Q else E := by
  rw [if_pos hw]
  obtain ⟨A, n, c, hx, hI, rfl⟩ := hx
  obtain ⟨v', w', hrun, h1, h2, h3⟩ := run_app_ints W base o.type (a.eval s) l m A c hown hI hn hbase
  unfold Oper.wp execOp
  simp only [ho, resolve, invoke, builtin, Sem.run_bind, Sem.run_pure, Result.andThen_ok, List.map_toArray, List.map_cons, List.map_nil, hx, hrun]
  exact h _ _ h1 h2 ((Below.refl base W).grown h2 hbase (fun k hk => (hown.1.lt k hk).1))
theorem empA {w : World} : Own w.heap.size (w.alloc (.cells #[] 3)).drew (.slice (some ⟨w.heap.size, 0, none⟩) 0 0) [] := Own.empty rfl
theorem empB {w : World} {o : Obj} : Own w.heap.size ((w.alloc (.cells #[] 3)).alloc o).drew (.slice (some ⟨w.heap.size, 0, none⟩) 0 0) [] := (Own.empty rfl).grow ((Below.refl _ _).alloc (Nat.le_refl _) _).drew
theorem empC {w : World} {o : Obj} : Own w.heap.size ((w.alloc o).alloc (.cells #[] 3)).drew (.slice (some ⟨w.heap.size + 1, 0, none⟩) 0 0) [] := (Own.empty (by simp)).base (by simp)
theorem belowP1 {w w' : World} {o : Obj} (h : Below w.heap.size (w.alloc o).drew w') : Below w.heap.size w w' := ((Below.refl w.heap.size w).alloc (Nat.le_refl _) o).drew.trans h
theorem belowP2 {w w' : World} {o p : Obj} (h : Below w.heap.size ((w.alloc o).alloc p).drew w') : Below w.heap.size w w' := (((Below.refl w.heap.size w).alloc (Nat.le_refl _) o).alloc (by simp) p).drew.trans h
theorem belowU {a w v : World} {o : Obj} (h : Below a.heap.size a w) (h2 : Below a.heap.size (w.alloc o) v) : Below a.heap.size a v := (h.alloc h.size o).trans h2
theorem lit_two {w : World} {x y : Int} {t : TypeId} (hx : I64 x) (hy : I64 y) : Ints (w.alloc (.cells #[.int .i64 x, .int .i64 y] t)) (some ⟨w.heap.size, 0, none⟩) [x, y] := by
  refine litB rfl (List.all_eq_true.2 fun u hu => ?_)
  have hu2 : I64 u := by
    simp at hu
    rcases hu with rfl | rfl
    · exact hx
    · exact hy
  have u1 := hu2.1
  have u2 := hu2.2
  simp; omega
theorem litK2 {w w' : World} {x y : Int} {t t' : TypeId} (hx : I64 x) (hy : I64 y) (hg : ((w.alloc (.cells #[] t)).alloc (.cells #[.int .i64 x, .int .i64 y] t')).drew.grownBy w' (some w.heap.size)) : Ints w' (some ⟨w.heap.size + 1, 0, none⟩) [x, y] := by
  have h0 : Ints ((w.alloc (.cells #[] t)).alloc (.cells #[.int .i64 x, .int .i64 y] t')).drew (some ⟨w.heap.size + 1, 0, none⟩) [x, y] := by
    have := lit_two (w := w.alloc (.cells #[] t)) (t := t') hx hy
    rw [show (w.alloc (.cells #[] t)).heap.size = w.heap.size + 1 by simp] at this
    exact this.grow (Below.refl _ _).drew
  exact h0.kept hg (fun _ ad e => by injection e with e; subst e; simp)
theorem litK3 {w w' : World} {x y : Int} {t t' : TypeId} (hx : I64 x) (hy : I64 y) (hg : ((w.alloc (.cells #[.int .i64 x, .int .i64 y] t')).alloc (.cells #[] t)).drew.grownBy w' (some (w.heap.size + 1))) : Ints w' (some ⟨w.heap.size, 0, none⟩) [x, y] := by
  have h0 : Ints ((w.alloc (.cells #[.int .i64 x, .int .i64 y] t')).alloc (.cells #[] t)).drew (some ⟨w.heap.size, 0, none⟩) [x, y] := (lit_two hx hy).grow ((Below.refl _ _).alloc (Nat.le_refl _) _).drew
  exact h0.kept hg (fun _ ad e => by injection e with e; subst e; simp)
theorem twoS {a w' : World} {p q : Addr} {x y : Value} (hp : p.block < a.heap.size) (hq : q.block < a.heap.size) (S : Hid (a.cell? p = some x ∧ a.cell? q = some y)) (b : Below a.heap.size a w') : w'.cell? p = some x ∧ w'.cell? q = some y :=
  ⟨(b.cell hp).trans S.out.1, (b.cell hq).trans S.out.2⟩
theorem emp1 {w : World} : Own w.heap.size (w.alloc (.cells #[] 3)) (.slice (some ⟨w.heap.size, 0, none⟩) 0 0) [] := Own.empty rfl
theorem emp2 {w : World} {o : Obj} : Own w.heap.size ((w.alloc (.cells #[] 3)).alloc o) (.slice (some ⟨w.heap.size, 0, none⟩) 0 0) [] := (Own.empty rfl).grow ((Below.refl _ _).alloc (Nat.le_refl _) _)
theorem emp3 {w : World} {o : Obj} : Own w.heap.size ((w.alloc o).alloc (.cells #[] 3)) (.slice (some ⟨w.heap.size + 1, 0, none⟩) 0 0) [] := (Own.empty (by simp)).base (by simp)
theorem bP1 {a w w' : World} {o : Obj} (h0 : Below a.heap.size a w) (h : Below w.heap.size (w.alloc o) w') : Below a.heap.size a w' := below_then (h0) (((Below.refl w.heap.size w).alloc (Nat.le_refl _) o).trans h)
theorem bP2 {a w w' : World} {o p : Obj} (h0 : Below a.heap.size a w) (h : Below w.heap.size ((w.alloc o).alloc p) w') : Below a.heap.size a w' := below_then (h0) ((((Below.refl w.heap.size w).alloc (Nat.le_refl _) o).alloc (by simp) p).trans h)
theorem lit_one {w : World} {x : Int} {t : TypeId} (hx : I64 x) : Ints (w.alloc (.cells #[.int .i64 x] t)) (some ⟨w.heap.size, 0, none⟩) [x] := by
  refine litB rfl (List.all_eq_true.2 fun u hu => ?_)
  simp at hu
  subst hu
  have u1 := hx.1
  have u2 := hx.2
  simp; omega
theorem litS2 {w w' : World} {x : Int} {t t' : TypeId} (hx : I64 x) (hg : ((w.alloc (.cells #[] t)).alloc (.cells #[.int .i64 x] t')).grownBy w' (some w.heap.size)) : Ints w' (some ⟨w.heap.size + 1, 0, none⟩) [x] := by
  have h0 := lit_one (w := w.alloc (.cells #[] t)) (t := t') hx
  rw [show (w.alloc (.cells #[] t)).heap.size = w.heap.size + 1 by simp] at h0
  exact h0.kept hg (fun _ ad e => by injection e with e; subst e; simp)
theorem litS3 {w w' : World} {x : Int} {t t' : TypeId} (hx : I64 x) (hg : ((w.alloc (.cells #[.int .i64 x] t')).alloc (.cells #[] t)).grownBy w' (some (w.heap.size + 1))) : Ints w' (some ⟨w.heap.size, 0, none⟩) [x] :=
  ((lit_one hx).grow ((Below.refl _ _).alloc (Nat.le_refl _) _)).kept hg (fun _ ad e => by injection e with e; subst e; simp)
theorem w32_turn2 {x : List Int} (_h : 2 ≤ x.length) (hw : W32 x) : W32 (turn2 x) := fun y hy => by
  unfold turn2 at hy
  rcases List.mem_append.1 hy with hy | hy
  · exact hw y (List.mem_of_mem_drop hy)
  · simp at hy
    rcases hy with rfl | rfl
    · exact w32_el hw 0
    · exact w32_el hw 1
end Go.Proofs.YtpmbgcfnehplaaaDoor
end
