/- Networks in numbers: the walk of Raw.Net of package world. -/
import Derived.Test.YtdiflpbioohddaaDoorhH3
import Derived.Test.YtdiflpbioohddaaDoorhS3toCr
import Derived.Test.YtdiflpbioohddaaDoorhJ2
import Derived.Test.YtdiflpbioohddaaDoorhE5toS1
import Derived.Test.YtdiflpbioohddaaDoorhH1toH2
import Derived.Test.YtdiflpbioohddaaDoorhG9toG10
import Derived.Handy
set_option linter.unusedVariables false
set_option linter.unusedSimpArgs false
namespace Go.Proofs.YtdiflpbioohddaaDoor
open Go.RowKit
theorem Own.storeH {w : World} {base g k : Nat} {v u : Value} {l : List Int} (h : Own base w v l) (hg : g < base) : Own base (w.setCell ⟨g, k, none⟩ u) v l := ⟨own_store h.1 hg, h.2⟩
def WiresAt (w : World) (A : Option Addr) (ws : List (List Int × List Int)) : Prop :=
  ∀ (k : Nat) x, ws[k]? = some x → ∃ ad B b C c, A = some ad ∧ ad.block < w.heap.size ∧ w.cell? (ad.add (k * 2)) = some (.slice B x.1.length b) ∧ w.cell? ⟨(ad.add (k * 2)).block, (ad.add (k * 2)).off + 1, none⟩ = some (.slice C x.2.length c) ∧ Ints w B x.1 ∧ Ints w C x.2 ∧ x.1.length ≤ 9223372036854775807 ∧ x.2.length ≤ 9223372036854775807
theorem WiresAt.nil {w : World} {A : Option Addr} : WiresAt w A [] := fun k x h => by simp at h
theorem WiresAt.grow {w w' : World} {A : Option Addr} {ws : List (List Int × List Int)} (h : WiresAt w A ws) (hb : Below w.heap.size w w') : WiresAt w' A ws := fun k x hk => by
  obtain ⟨ad, B, b, C, c, e, h1, c0, c1, i1, i2, l1, l2⟩ := h k x hk
  exact ⟨ad, B, b, C, c, e, Nat.lt_of_lt_of_le h1 hb.size, (hb.cell (by rw [block_add]; exact h1)).trans c0, (hb.cell (by show (ad.add _).block < _; rw [block_add]; exact h1)).trans c1, i1.grow hb, i2.grow hb, l1, l2⟩
def zeros12' : List Value := [.int .i64 0, .int .i64 0, .int .i64 0, .int .i64 0, .int .i64 0, .int .i64 0, .int .i64 0, .int .i64 0, .int .i64 0, .slice none 0 0, .slice none 0 0, .int .i64 0]
theorem word_fitsR {b f r o : Int} (h : okW b f r o = true) (y : Int) : fitsW b f r o (wordF b f r o y) = true := by
  have hl := low_high b f r o
  obtain ⟨g1, g2⟩ := within_in (m := highW b f r o - lowW b f r o + 1) (by omega) (wrap64 (y - lowW b f r o))
  unfold fitsW
  rw [h, Bool.true_and, inB_iff]
  unfold wordF
  omega
theorem unit_term {c0 c1 c2 c3 last f Q s y : Int} (hc : okW c0 c1 c2 c3 = true) (hQ : (2 : Int) ^ c1.toNat = Q) (hf : 0 ≤ f ∧ f ≤ last) (hs : 0 ≤ s ∧ s < 3) (hy : Q * (s - 1) = y) : termB c0 c1 c2 c3 last (f, y) = true := by
  rw [termB_eq hQ, inB_iff.2 hf, Bool.true_and]
  obtain ⟨a1, a2, a3, a4, _⟩ := okW_iff.1 hc
  have hle : Q ≤ 2 ^ (c0 - 1).toNat := by rw [← hQ]; exact pow_le (by omega)
  have h0 : 0 < Q := by rw [← hQ]; exact pow_pos' _
  have hl : lowW c0 c1 c2 c3 = -2 ^ (c0 - 1).toNat := by unfold lowW; rw [if_pos hc]
  have hh : highW c0 c1 c2 c3 = 2 ^ (c0 - 1).toNat - 1 := by unfold highW; rw [if_pos hc]
  have hfit : ∀ v, -Q ≤ v → v ≤ 0 → fitsW c0 c1 c2 c3 v = true := fun v h1 h2 => by
    unfold fitsW
    rw [hc, Bool.true_and, hl, hh, inB_iff]
    omega
  rcases (show s = 0 ∨ s = 1 ∨ s = 2 by omega) with rfl | rfl | rfl
  · rw [hfit y (by omega) (by omega)]; rfl
  · rw [hfit y (by omega) (by omega)]; rfl
  · have : y = Q := by omega
    rw [this]; simp
abbrev rawV (dn cn sn : Int) (WA : Option Addr) (wn wc : Nat) (XA : Option Addr) (xn xc : Nat) (out : Int) (wh : Bool) : Value := .agg #[.int .i64 dn, .int .i64 cn, .int .i64 sn, .slice WA wn wc, .slice XA xn xc, .int .i64 out, .bool wh]
structure RawP (w : World) (P : World → Prop) (dn cn sn : Int) (WA : Option Addr) (ws : List (List Int × List Int)) (wn wc : Nat) (XA : Option Addr) (nx : List Int) (xn xc : Nat) (out : Int) (wh : Bool) : Prop where
  go : ∀ w1 w2, P w1 → Below w1.heap.size w1 w2 → P w2
  gr : ∀ w1 w2 g, P w1 → w1.grownBy w2 (some g) → w.heap.size + 2 ≤ g → P w2
  gl : ∀ w1 w2, P w1 → Below (w.heap.size + 2) w1 w2 → P w2
  old : ∀ w1, P w1 → Below w.heap.size w w1
  cells : ∀ w1, P w1 → w1.cell? ⟨w.heap.size, 0, none⟩ = some (.int .i64 dn) ∧ w1.cell? ⟨w.heap.size, 1, none⟩ = some (.int .i64 cn) ∧ w1.cell? ⟨w.heap.size, 2, none⟩ = some (.int .i64 sn) ∧ w1.cell? ⟨w.heap.size, 3, none⟩ = some (.slice WA wn wc) ∧
      w1.cell? ⟨w.heap.size, 4, none⟩ = some (.slice XA xn xc) ∧ w1.cell? ⟨w.heap.size, 5, none⟩ = some (.int .i64 out) ∧ w1.cell? ⟨w.heap.size, 6, none⟩ = some (.bool wh)
  res : ∀ w1, P w1 → Box w1 (w.heap.size + 1) zeros12'
  wires : ∀ w1, P w1 → WiresAt w1 WA ws
  next : ∀ w1, P w1 → Ints w1 XA nx
  lt : ∀ w1, P w1 → w.heap.size + 2 ≤ w1.heap.size
theorem rawP_mk {w : World} {dn cn sn : Int} {WA : Option Addr} {ws : List (List Int × List Int)} {wn wc : Nat} {XA : Option Addr} {nx : List Int} {xn xc : Nat} {out : Int} {wh : Bool} (hW : WiresAt w WA ws) (hX : Ints w XA nx) :
    RawP w (Below (w.heap.size + 2) ((w.alloc (.cells #[.int .i64 dn, .int .i64 cn, .int .i64 sn, .slice WA wn wc, .slice XA xn xc, .int .i64 out, .bool wh] 30)).alloc (.cells zeros12'.toArray 27))) dn cn sn WA ws wn wc XA nx xn xc out wh := by
  have hs : ∀ w1, Below (w.heap.size + 2) ((w.alloc (.cells #[.int .i64 dn, .int .i64 cn, .int .i64 sn, .slice WA wn wc, .slice XA xn xc, .int .i64 out, .bool wh] 30)).alloc (.cells zeros12'.toArray 27)) w1 → w.heap.size + 2 ≤ w1.heap.size := fun w1 h => by have := h.size; simp at this; omega
  have old : ∀ w1, Below (w.heap.size + 2) ((w.alloc (.cells #[.int .i64 dn, .int .i64 cn, .int .i64 sn, .slice WA wn wc, .slice XA xn xc, .int .i64 out, .bool wh] 30)).alloc (.cells zeros12'.toArray 27)) w1 → Below w.heap.size w w1 := fun w1 h =>
    (((Below.refl w.heap.size w).alloc (Nat.le_refl _) _).alloc (by simp) _).trans (h.mono (by omega))
  refine ⟨fun w1 w2 h h2 => h.trans (h2.mono (hs w1 h)), fun w1 w2 g h h2 hg => h.grown h2 (hs w1 h) (fun k e => by injection e with e; omega), fun w1 w2 h h2 => h.trans h2, old, fun w1 h => ?_, fun w1 h => ?_, fun w1 h => hW.grow (old w1 h), fun w1 h => hX.grow (old w1 h), hs⟩
  · have a := fun (k : Nat) => h.cell (p := ⟨w.heap.size, k, none⟩) (by show w.heap.size < _; omega)
    exact ⟨(a 0).trans (by simp [go_sem]), (a 1).trans (by simp [go_sem]), (a 2).trans (by simp [go_sem]), (a 3).trans (by simp [go_sem]), (a 4).trans (by simp [go_sem]), (a 5).trans (by simp [go_sem]), (a 6).trans (by simp [go_sem])⟩
  · have hb : Box ((w.alloc (.cells #[.int .i64 dn, .int .i64 cn, .int .i64 sn, .slice WA wn wc, .slice XA xn xc, .int .i64 out, .bool wh] 30)).alloc (.cells zeros12'.toArray 27)) (w.heap.size + 1) zeros12' := by
      have := Box.new (w := w.alloc (.cells #[.int .i64 dn, .int .i64 cn, .int .i64 sn, .slice WA wn wc, .slice XA xn xc, .int .i64 out, .bool wh] 30)) (vs := zeros12'.toArray) (t := 27) (g := w.heap.size + 1) (by simp)
      simpa using this
    exact hb.block (h.block _ (by omega)) h.size
def netF1 (B R : Nat) (dn cn sn d0 d1 d2 d3 c0 c1 c2 c3 st : Int) : Nat → Value → World → Prop
  | 0, v, _ => v = .pointer (some ⟨R, 0, none⟩)
  | 1, v, _ => v = .int .i64 dn
  | 2, v, _ => v = wordV d0 d1 d2 d3
  | 3, v, _ => v = .pointer (some ⟨R, 1, none⟩)
  | 4, v, _ => v = .int .i64 cn
  | 5, v, _ => v = wordV c0 c1 c2 c3
  | 6, v, _ => v = .pointer (some ⟨R, 2, none⟩)
  | 7, v, _ => v = .int .i64 sn
  | 8, v, _ => v = .int .i64 st
  | 9, v, _ => v = .agg #[.int .i64 d0, .int .i64 d1, .int .i64 d2, .int .i64 d3, .int .i64 c0, .int .i64 c1, .int .i64 c2, .int .i64 c3, .int .i64 st, .slice none 0 0, .slice none 0 0, .int .i64 0]
  | 10, v, w => ∃ q, v = .pointer (some ⟨q, 0, none⟩) ∧ B ≤ q ∧ Box w q zeros12'
  | _, _, _ => True
theorem netF1_keep {B R : Nat} {dn cn sn d0 d1 d2 d3 c0 c1 c2 c3 st : Int} {w w' : World} (h : Below w.heap.size w w') : ∀ i v, netF1 B R dn cn sn d0 d1 d2 d3 c0 c1 c2 c3 st i v w → netF1 B R dn cn sn d0 d1 d2 d3 c0 c1 c2 c3 st i v w'
  | 0, _, e => e | 1, _, e => e | 2, _, e => e | 3, _, e => e | 4, _, e => e | 5, _, e => e | 6, _, e => e | 7, _, e => e | 8, _, e => e | 9, _, e => e
  | 10, _, ⟨q, e, hB, hb⟩ => ⟨q, e, hB, hb.keep h⟩
  | _ + 11, _, _ => trivial
def netF2 (B R q : Nat) (ad fa : Addr) (WA FA CA : Option Addr) (wn wc fl fc cl cc k i : Nat) (st x f y c0 c1 c2 c3 : Int) (co : List Int) : Nat → Value → World → Prop
  | 0, v, _ => v = .pointer (some ⟨R, 3, none⟩)
  | 1, v, _ => v = .slice WA wn wc
  | 2, v, _ => v = .int .i64 k
  | 3, v, _ => v = .pointer (some (ad.add (k * 2)))
  | 4, v, _ => v = .pointer (some (ad.add (k * 2)))
  | 5, v, _ => v = .slice FA fl fc
  | 6, v, _ => v = .int .i64 i
  | 7, v, _ => v = .pointer (some (fa.add i))
  | 8, v, _ => v = .int .i64 x
  | 9, v, _ => v = .pointer (some ⟨q, 8, none⟩)
  | 10, v, _ => v = .int .i64 st
  | 11, v, _ => v = .int .i64 (1 + st)
  | 12, v, _ => v = .int .i64 k
  | 13, v, _ => v = .int .i64 (1 + st + k)
  | 14, v, _ => v = .int .i64 f
  | 15, v, _ => v = .pointer (some ⟨q, 4, none⟩)
  | 16, v, _ => v = wordV c0 c1 c2 c3
  | 17, v, _ => v = .pointer (some ⟨R, 3, none⟩)
  | 18, v, _ => v = .slice WA wn wc
  | 19, v, _ => v = .int .i64 k
  | 20, v, _ => v = .pointer (some (ad.add (k * 2)))
  | 21, v, _ => v = .pointer (some ⟨(ad.add (k * 2)).block, (ad.add (k * 2)).off + 1, none⟩)
  | 22, v, _ => v = .slice CA cl cc
  | 23, v, _ => v = .int .i64 i
  | 24, v, _ => v = .int .i64 ((i : Int) + 1)
  | 25, v, w => ∃ A c, v = .slice A (i + 1) c ∧ Ints w A (wordsF c0 c1 c2 c3 co (i + 1))
  | 26, v, _ => v = .int .i64 i
  | 27, v, w => ∃ p, v = .pointer (some p) ∧ p.block < w.heap.size ∧ w.cell? p = some (.int .i64 y)
  | 28, v, _ => v = .int .i64 y
  | 29, v, _ => v = .agg #[.int .i64 f, .int .i64 y]
  | 30, v, w => ∃ p, v = .pointer (some ⟨p, 0, none⟩) ∧ B ≤ p ∧ Box w p [.int .i64 0, .int .i64 0]
  | _, _, _ => True
theorem netF2_keep {B R q : Nat} {ad fa : Addr} {WA FA CA : Option Addr} {wn wc fl fc cl cc k i : Nat} {st x f y c0 c1 c2 c3 : Int} {co : List Int} {w w' : World} (h : Below w.heap.size w w') : ∀ j v, netF2 B R q ad fa WA FA CA wn wc fl fc cl cc k i st x f y c0 c1 c2 c3 co j v w → netF2 B R q ad fa WA FA CA wn wc fl fc cl cc k i st x f y c0 c1 c2 c3 co j v w'
  | 0, _, e => e | 1, _, e => e | 2, _, e => e | 3, _, e => e | 4, _, e => e | 5, _, e => e | 6, _, e => e | 7, _, e => e | 8, _, e => e | 9, _, e => e
  | 10, _, e => e | 11, _, e => e | 12, _, e => e | 13, _, e => e | 14, _, e => e | 15, _, e => e | 16, _, e => e | 17, _, e => e | 18, _, e => e | 19, _, e => e
  | 20, _, e => e | 21, _, e => e | 22, _, e => e | 23, _, e => e | 24, _, e => e | 26, _, e => e | 28, _, e => e | 29, _, e => e
  | 25, _, ⟨A, c, e, hi⟩ => ⟨A, c, e, hi.grow h⟩
  | 27, _, ⟨p, e, hb, hc⟩ => ⟨p, e, Nat.lt_of_lt_of_le hb h.size, (h.cell hb).trans hc⟩
  | 30, _, ⟨p, e, hB, hb⟩ => ⟨p, e, hB, hb.keep h⟩
  | _ + 31, _, _ => trivial
def netF3 (R q : Nat) (X : Value) (XA NA : Option Addr) (xn xc k nc j : Nat) (st u y : Int) : Nat → Value → World → Prop
  | 0, v, _ => v = .pointer (some ⟨q, 10, none⟩)
  | 1, v, _ => v = X
  | 2, v, _ => v = .pointer (some ⟨R, 4, none⟩)
  | 3, v, _ => v = .slice XA xn xc
  | 4, v, _ => v = .int .i64 j
  | 5, v, _ => v = .int .i64 y
  | 6, v, _ => v = .pointer (some ⟨q, 8, none⟩)
  | 7, v, _ => v = .int .i64 st
  | 8, v, _ => v = .int .i64 (1 + st)
  | 9, v, _ => v = .pointer (some ⟨q, 9, none⟩)
  | 10, v, _ => v = .slice NA k nc
  | 11, v, _ => v = .int .i64 k
  | 12, v, _ => v = .int .i64 (1 + st + k)
  | 13, v, _ => v = .int .i64 u
  | 14, v, w => ∃ p, v = .slice (some ⟨p, 0, none⟩) 1 1 ∧ Ints w (some ⟨p, 0, none⟩) [u]
  | _, _, _ => True
theorem netF3_keep {R q : Nat} {X : Value} {XA NA : Option Addr} {xn xc k nc j : Nat} {st u y : Int} {w w' : World} (h : Below w.heap.size w w') : ∀ i v, netF3 R q X XA NA xn xc k nc j st u y i v w → netF3 R q X XA NA xn xc k nc j st u y i v w'
  | 0, _, e => e | 1, _, e => e | 2, _, e => e | 3, _, e => e | 4, _, e => e | 5, _, e => e | 6, _, e => e | 7, _, e => e | 8, _, e => e | 9, _, e => e
  | 10, _, e => e | 11, _, e => e | 12, _, e => e | 13, _, e => e 
  | 14, _, ⟨p, e, hi⟩ => ⟨p, e, hi.grow h⟩
  | _ + 15, _, _ => trivial
theorem grown_past {a w w' : World} {q : Nat} {r : Option Nat} (h : a.grownBy w (some q)) (h2 : w.grownBy w' r) (hr : ∀ k, r = some k → a.heap.size ≤ k) : a.grownBy w' (some q) :=
  ⟨h2.os.trans h.os, h2.tape.trans h.tape, h2.output.trans h.output, Nat.le_trans h.size h2.size, fun k hk hn => (h2.block k (Nat.lt_of_lt_of_le hk h.size) (fun e => by have := hr k e.symm; omega)).trans (h.block k hk hn)⟩
def RetRaw (w : World) (dn cn : Int) (e : Ending) (w' : World) : Prop :=
  ∃ d0 d1 d2 d3 c0 c1 c2 c3 st ns nx out NA nc XA xc, e = .returned (netV d0 d1 d2 d3 c0 c1 c2 c3 st NA ns.length nc XA nx.length xc out) ∧ mkW dn 6 12 2 = (d0, d1, d2, d3) ∧ mkW cn 6 9 1 = (c0, c1, c2, c3) ∧ NodesAt w' NA ns ∧ Ints w' XA nx ∧ Below w.heap.size w w' ∧
    netB d0 d1 d2 d3 c0 c1 c2 c3 st ns nx out = true ∧ st ≤ 3 ∧ ns.length ≤ 4 ∧ ∀ ts ∈ ns, ts.length ≤ 4
def NodesFr (b : Nat) (w : World) (A : Option Addr) (ns : List (List (Int × Int))) : Prop :=
  ∀ (k : Nat) ts, ns[k]? = some ts → ∃ ad B c, A = some ad ∧ b ≤ ad.block ∧ ad.block < w.heap.size ∧ w.cell? (ad.add k) = some (.slice B ts.length c) ∧ TermsAt w B ts ∧ (ts ≠ [] → ∀ a, B = some a → b ≤ a.block)
theorem OwnNd.formF {base b n d : Nat} {w : World} {A : Option Addr} {ns : List (List (Int × Int))} (h : OwnNd base w (.slice A n d) ns) (hb : b ≤ base) : NodesFr b w A ns := by
  obtain ⟨cs, h1, h2⟩ := h
  intro k l hk
  obtain ⟨C, d, c0, hi, hn⟩ := h2 k l hk
  obtain ⟨_, _, e, _⟩ := own_form h1
  injection e with _ e2 _
  subst e2
  obtain ⟨g, e0, hg, d0⟩ := own_cells h1 c0
  subst e0
  have hbg : base ≤ g := (h1.lt g rfl).1
  exact ⟨_, C, d, rfl, Nat.le_trans hb hbg, hg, by rw [add_cellsB]; exact d0, hi, fun hl a ha => Nat.le_trans hb (hn hl a ha).1⟩
def RetRawF (w : World) (dn cn : Int) (e : Ending) (w' : World) : Prop :=
  ∃ d0 d1 d2 d3 c0 c1 c2 c3 st ns nx out NA nc XA xc, e = .returned (netV d0 d1 d2 d3 c0 c1 c2 c3 st NA ns.length nc XA nx.length xc out) ∧ mkW dn 6 12 2 = (d0, d1, d2, d3) ∧ mkW cn 6 9 1 = (c0, c1, c2, c3) ∧ NodesAt w' NA ns ∧ Ints w' XA nx ∧ Below w.heap.size w w' ∧
    netB d0 d1 d2 d3 c0 c1 c2 c3 st ns nx out = true ∧ st ≤ 3 ∧ ns.length ≤ 4 ∧ (∀ ts ∈ ns, ts.length ≤ 4) ∧ NodesFr w.heap.size w' NA ns ∧ (nx ≠ [] → ∀ a, XA = some a → w.heap.size ≤ a.block)
set_option maxRecDepth 100000 in
set_option maxHeartbeats 8000000 in
theorem raw_NetF (dn cn sn out : Int) (wh : Bool) (WA XA : Option Addr) (wn wc xn xc : Nat) (ws : List (List Int × List Int)) (nx : List Int) (w : World) (hW : WiresAt w WA ws) (hX : Ints w XA nx) (hwn : ws.length = wn) (hxn : nx.length = xn) (h1 : wn ≤ 9223372036854775807) (h2 : xn ≤ 9223372036854775807) :
    Calls Tryd.prog 14 #[rawV dn cn sn WA wn wc XA xn xc out wh] w (RetRawF w dn cn) := by
  have HWN := Lib.hid hwn
  have HXN := Lib.hid hxn
  have hPB : ∃ P : World → Prop, P ((w.alloc (.cells #[.int .i64 dn, .int .i64 cn, .int .i64 sn, .slice WA wn wc, .slice XA xn xc, .int .i64 out, .bool wh] 30)).alloc (.cells #[.int .i64 0, .int .i64 0, .int .i64 0, .int .i64 0, .int .i64 0, .int .i64 0, .int .i64 0, .int .i64 0, .int .i64 0, .slice none 0 0, .slice none 0 0, .int .i64 0] 27)) ∧ RawP w P dn cn sn WA ws wn wc XA nx xn xc out wh := ⟨_, Below.refl _ _, rawP_mk hW hX⟩
  obtain ⟨P, HP0, PN0⟩ := hPB
  have HP := Lib.hid HP0
  have PN := Lib.hid PN0
  clear HP0 PN0 hwn hxn hW hX
  obtain ⟨⟨d0, d1, d2, d3⟩, hD⟩ : ∃ D, mkW dn 6 12 2 = D := ⟨_, rfl⟩
  obtain ⟨⟨c0, c1, c2, c3⟩, hC⟩ : ∃ C, mkW cn 6 9 1 = C := ⟨_, rfl⟩
  obtain ⟨st, hst⟩ : ∃ st, withinF sn 4 = st := ⟨_, rfl⟩
  have HD := Lib.hid hD
  have HC := Lib.hid hC
  have HST := Lib.hid hst
  clear hD hC hst
  go_enter Tryd.func14, Tryd.ntmps14
  go_upto_region 1 with fail
  have hp0 := HP.out
  generalize ((w.alloc (.cells #[.int .i64 dn, .int .i64 cn, .int .i64 sn, .slice WA wn wc, .slice XA xn xc, .int .i64 out, .bool wh] 30)).alloc (.cells #[.int .i64 0, .int .i64 0, .int .i64 0, .int .i64 0, .int .i64 0, .int .i64 0, .int .i64 0, .int .i64 0, .int .i64 0, .slice none 0 0, .slice none 0 0, .int .i64 0] 27)) = W0 at hp0 ⊢
  have HP0 := Lib.hid hp0
  clear HP hp0
  refine wp_region_grow 11 P (fun w1 w2 => Below w1.heap.size w1 w2) (netF1 (w.heap.size + 2) w.heap.size dn cn sn d0 d1 d2 d3 c0 c1 c2 c3 st) (by kernel_rfl) (by kernel_rfl) (PN.out.go _ _ HP0.out (Below.drew (Below.refl _ _))) (fun w1 w2 h1 h2 => ⟨PN.out.go _ _ h1 h2, fun i _ v => netF1_keep h2 i v⟩) ?_ ?_
  · refine ⟨?_, ?_, ?_, ?_, ?_, ?_, ?_, ?_, ?_, ?_, ?_, trivial⟩
    all_goals
      intro vs w1 hp hF
      obtain ⟨z0, z1, z2, z3, z4, z5, z6⟩ := PN.out.cells _ hp
      simp [depsB, Region.binds, netF1] at hF
      simp [stL, depsB, Region.binds, Act.put, hF]
    all_goals try (go_wp2_with fail; exact ⟨rfl, Below.refl _ _⟩)
    · go_wp2_with fail
      refine (wd_Data dn _).mono ?_
      rw [HD.out]
      rintro e w2 ⟨rfl, hb2⟩
      go_wp2_with fail
      exact rfl
    · go_wp2_with fail
      refine (wd_Coef cn _).mono ?_
      rw [HC.out]
      rintro e w2 ⟨rfl, hb2⟩
      go_wp2_with fail
      exact rfl
    · go_wp2_with fail
      refine (wd_Within sn 4 _ (by decide)).mono ?_
      rw [HST.out]
      rintro e w2 ⟨rfl, rfl⟩
      go_wp2_with fail
      exact ⟨rfl, Below.refl _ _⟩
    · go_wp2_with fail
      exact ⟨⟨_, rfl, PN.out.lt _ hp, Box.new rfl⟩, Below.alloc (Below.refl _ _) (Nat.le_refl _) _⟩
  · intro vs w1 hp hF
    have e9 : vs 9 = .agg #[.int .i64 d0, .int .i64 d1, .int .i64 d2, .int .i64 d3, .int .i64 c0, .int .i64 c1, .int .i64 c2, .int .i64 c3, .int .i64 st, .slice none 0 0, .slice none 0 0, .int .i64 0] := hF 9 (by decide)
    obtain ⟨q, e10, hqb, hq⟩ := hF 10 (by decide)
    simp [stL, Act.put, e9, e10]
    generalize vs 0 = v0
    generalize vs 1 = v1
    generalize vs 2 = v2
    generalize vs 3 = v3
    generalize vs 4 = v4
    generalize vs 5 = v5
    generalize vs 6 = v6
    generalize vs 7 = v7
    generalize vs 8 = v8
    obtain ⟨⟨z1, z2, z3, z4⟩, ⟨z5, z6, z7, z8⟩, z9, z10, z11, z12⟩ := hq.c12
    have hf := hq.2.2
    have hql := hq.1
    have hq1 := hq.fill12 (.int .i64 d0) (.int .i64 d1) (.int .i64 d2) (.int .i64 d3) (.int .i64 c0) (.int .i64 c1) (.int .i64 c2) (.int .i64 c3) (.int .i64 st) (.slice none 0 0) (.slice none 0 0) (.int .i64 0)
    have hp1 := PN.out.gr _ _ q hp (fill12_grown w1 q (.int .i64 d0) (.int .i64 d1) (.int .i64 d2) (.int .i64 d3) (.int .i64 c0) (.int .i64 c1) (.int .i64 c2) (.int .i64 c3) (.int .i64 st) (.slice none 0 0) (.slice none 0 0) (.int .i64 0)) hqb
    unfold fill12 at hq1 hp1
    clear hF e9 e10 hp
    go_upto_region 2 with fail
    clear z1 z2 z3 z4 z5 z6 z7 z8 z9 z10 z11 z12 hf hql hq
    generalize ((((((((((((w1.setCell ⟨q, 0, none⟩ (.int .i64 d0)).setCell ⟨q, 1, none⟩ (.int .i64 d1)).setCell ⟨q, 2, none⟩ (.int .i64 d2)).setCell ⟨q, 3, none⟩ (.int .i64 d3)).setCell ⟨q, 4, none⟩ (.int .i64 c0)).setCell ⟨q, 5, none⟩ (.int .i64 c1)).setCell ⟨q, 6, none⟩ (.int .i64 c2)).setCell ⟨q, 7, none⟩ (.int .i64 c3)).setCell ⟨q, 8, none⟩ (.int .i64 st)).setCell ⟨q, 9, none⟩ (.slice none 0 0)).setCell ⟨q, 10, none⟩ (.slice none 0 0)).setCell ⟨q, 11, none⟩ (.int .i64 0)) = W1 at hq1 hp1 ⊢
    obtain ⟨o1, o2, o3, o4⟩ : 4 ≤ c0 ∧ c0 ≤ 24 ∧ 0 ≤ c1 ∧ c1 ≤ c0 - 1 := by
      have h := mkWC_ok cn
      rw [HC.out] at h
      obtain ⟨a1, a2, a3, a4, _⟩ := okW_iff.1 h
      exact ⟨a1, a2, a3, a4⟩
    obtain ⟨s1, s2⟩ : 0 ≤ st ∧ st ≤ 3 := by
      have := within_in (m := 4) (by omega) sn
      rw [HST.out] at this
      omega
    obtain ⟨Q, hQ⟩ : ∃ Q, (2 : Int) ^ c1.toNat = Q := ⟨_, rfl⟩
    have q0 : 0 < Q := by rw [← hQ]; exact pow_pos' _
    have q1 : Q ≤ 8388608 := by
      have h23 : (2 : Int) ^ 23 = 8388608 := by decide
      have := pow_le (m := c1.toNat) (n := 23) (by omega)
      omega
    have e1 : IntKind.i64.wrap ((2 : Int) ^ c1.toNat) = Q := by rw [← hQ]; exact IntWalk.i64_in _ (by have := pow_pos' c1.toNat; have := pow_62 (n := c1.toNat) (by omega); omega)
    have HQ := Lib.hid hQ
    have HQ1 := Lib.hid hq1
    have HP1 := Lib.hid hp1
    obtain ⟨_, ⟨_, y5, _, _⟩, _, _, _, _⟩ := hq1.c12
    clear hQ hq1 hp1
    go_wp2_with fail
    clear e1 y5
    go_loopw [5] (fun i wr => ∃ (k : Nat) (ns : List (List (Int × Int))) (V : Value), i = .int .i64 k ∧ k ≤ 4 ∧ k ≤ wn ∧ Box wr q [.int .i64 d0, .int .i64 d1, .int .i64 d2, .int .i64 d3, .int .i64 c0, .int .i64 c1, .int .i64 c2, .int .i64 c3, .int .i64 st, V, .slice none 0 0, .int .i64 0] ∧ OwnNd (q + 1) wr V ns ∧ ns.length = k ∧ Hid (∀ (j : Nat) ts, ns[j]? = some ts → nodeB c0 c1 c2 c3 (st + j) ts = true ∧ ts.length ≤ 4) ∧ P wr) (fun i _ => 4 - (intOf i).toNat)
    case atStart => exact ⟨0, [], .slice none 0 0, rfl, by omega, Nat.zero_le _, HQ1.out, OwnNd.nil, rfl, fun j ts h => by simp at h, HP1.out⟩
    case round =>
      obtain ⟨k, ns, V, rfl, hk4, hkw, hB, hO, hnl, HG, hp⟩ := hrel
      obtain ⟨⟨y1, y2, y3, y4⟩, ⟨y5, y6, y7, y8⟩, y9, y10, y11, y12⟩ := hB.c12
      obtain ⟨z0, z1, z2, z3, z4, z5, z6⟩ := PN.out.cells _ hp
      by_cases hlt : k < wn ∧ k < 4
      · obtain ⟨hk1, hk2⟩ := hlt
        obtain ⟨⟨fr, co⟩, hx⟩ : ∃ x, ws[k]? = some x := ⟨_, List.getElem?_eq_getElem (by rw [HWN.out]; exact hk1)⟩
        obtain ⟨ad, FA, fc, CA, cc, hWA, hba, ca0, ca1, hFr, hCo, l1, l2⟩ := PN.out.wires _ hp k _ hx
        simp only at ca0 ca1 hFr hCo l1 l2
        obtain ⟨fl, hfl⟩ : ∃ n, fr.length = n := ⟨_, rfl⟩
        obtain ⟨cl, hcl⟩ : ∃ n, co.length = n := ⟨_, rfl⟩
        rw [hfl] at ca0 l1
        rw [hcl] at ca1 l2
        have HFL := Lib.hid hfl
        have HCL := Lib.hid hcl
        have x1 : (0 : Int) ≤ (k : Int) := by omega
        have x2 : (k : Int) < (wn : Int) := by omega
        have x3 : decide ((k : Int) < 4) = true := by simp; omega
        have HB := Lib.hid hB
        have HO := Lib.hid hO
        have HPP := Lib.hid hp
        have HFR := Lib.hid hFr
        have HCO := Lib.hid hCo
        have HCA0 := Lib.hid ca0
        have HCA1 := Lib.hid ca1
        have HNL := Lib.hid hnl
        have hqs := hB.1
        subst hWA
        clear hB hO hp hFr hCo hx hfl hcl hnl y1 y2 y3 y4 y5 y6 y7 y8 y11 y12
        go_wp2_with fail
        clear z0 z1 z2 z3 z4 z5 z6 ca0 ca1 y9 y10 x3
        obtain ⟨wo, rfl⟩ : ∃ wo : World, wo = wr := ⟨_, rfl⟩
        go_loopw [7] (fun s wr => ∃ (i : Nat) (ts : List (Int × Int)) (T : Value), s = .int .i64 i ∧ i ≤ 4 ∧ i ≤ fl ∧ Box wr wo.heap.size [T] ∧ OwnTm (wo.heap.size + 1) wr T ts ∧ ts.length = i ∧ Hid (∀ t ∈ ts, termB c0 c1 c2 c3 (st + k) t = true) ∧ Below wo.heap.size wo wr) (fun s _ => 4 - (intOf s).toNat)
        case atStart => exact ⟨0, [], .slice none 0 0, rfl, by omega, Nat.zero_le _, Box.new rfl, OwnTm.nil, rfl, fun t h => absurd h (List.not_mem_nil), Below.alloc (Below.refl _ _) (Nat.le_refl _) _⟩
        case round =>
          obtain ⟨i, ts, T, rfl, hi4, hif, hBT, hOT, htl, HT, hbw⟩ := hrel
          have hpr := PN.out.go _ _ HPP.out hbw
          obtain ⟨z0, z1, z2, z3, z4, z5, z6⟩ := PN.out.cells _ hpr
          have ca0 := (hbw.cell (by rw [block_add]; exact hba)).trans HCA0.out
          by_cases hlt : i < fl ∧ i < 4
          · obtain ⟨hi1, hi2⟩ := hlt
            have x3 : (0 : Int) ≤ (i : Int) := by omega
            have x4 : (i : Int) < (fl : Int) := by omega
            have x5 : decide ((i : Int) < 4) = true := by simp; omega
            have hbr : ad.block < wr.heap.size := Nat.lt_of_lt_of_le hba hbw.size
            have ca1 := (hbw.cell (p := ⟨(ad.add (k * 2)).block, (ad.add (k * 2)).off + 1, none⟩) (by show (ad.add (k * 2)).block < _; rw [block_add]; exact hba)).trans HCA1.out
            have hFr := HFR.out.grow hbw
            have hCo := HCO.out.grow hbw
            have hB := HB.out.keep hbw
            have HBT := Lib.hid hBT
            have HOT := Lib.hid hOT
            have HTL := Lib.hid htl
            have HBW := Lib.hid hbw
            clear hBT hOT htl hbw
            go_upto_region 10 with fail
            obtain ⟨fa, x, hfa, hfb, hx, cx, i1, i2⟩ := hFr.at_ (k := i) (by rw [HFL.out]; exact hi1)
            subst hfa
            obtain ⟨f, hf⟩ : ∃ f, withinF x (1 + st + k) = f := ⟨_, rfl⟩
            obtain ⟨y, hy⟩ : ∃ y, wordF c0 c1 c2 c3 (atF co i) = y := ⟨_, rfl⟩
            have hf1 := within_in (m := 1 + st + k) (by omega) x
            rw [hf] at hf1
            obtain ⟨f1, f2⟩ := hf1
            have HF := Lib.hid hf
            have HY := Lib.hid hy
            have HY2 : Hid (I64 y) := by
              have hw := word_fitsR (b := c0) (f := c1) (r := c2) (o := c3) (by have := mkWC_ok cn; rw [HC.out] at this; exact this) (atF co i)
              rw [hy] at hw
              have := fits_24 hw
              show I64 y
              unfold I64; omega
            have S0 : Hid (wr.cell? (ad.add (k * 2)) = some (.slice (some fa) fl fc) ∧ wr.cell? ⟨(ad.add (k * 2)).block, (ad.add (k * 2)).off + 1, none⟩ = some (.slice CA cl cc) ∧ wr.cell? (fa.add i) = some (.int .i64 x)) := ⟨ca0, ca1, cx⟩
            have HBr := Lib.hid hB
            have HPR := Lib.hid hpr
            have HCr := Lib.hid hCo
            clear hf hy hx hFr hCo hB hpr ca0 ca1 cx z0 z1 z2 z3 z4 z5 z6 x5
            refine wp_region_grow 31 (Below wr.heap.size wr) (fun w1 w2 => Below w1.heap.size w1 w2) (netF2 wr.heap.size w.heap.size q ad fa (some ad) (some fa) CA wn wc fl fc cl cc k i st x f y c0 c1 c2 c3 co) (by kernel_rfl) (by kernel_rfl) (Below.drew (Below.refl _ _)) (fun w1 w2 h1 h2 => ⟨below_then h1 h2, fun i _ v => netF2_keep h2 i v⟩) ?_ ?_
            --[b
            · refine ⟨?_, ?_, ?_, ?_, ?_, ?_, ?_, ?_, ?_, ?_, ?_, ?_, ?_, ?_, ?_, ?_, ?_, ?_, ?_, ?_, ?_, ?_, ?_, ?_, ?_, ?_, ?_, ?_, ?_, ?_, ?_, trivial⟩
              all_goals
                intro vs w1 hb1 hF
                obtain ⟨z0, z1, z2, z3, z4, z5, z6⟩ := PN.out.cells _ (PN.out.go _ _ HPR.out hb1)
                obtain ⟨⟨y1, y2, y3, y4⟩, ⟨y5, y6, y7, y8⟩, y9, y10, y11, y12⟩ := (HBr.out.keep hb1).c12
                have ca0 := (hb1.cell (by rw [block_add]; exact hbr)).trans S0.out.1
                have ca1 := (hb1.cell (p := ⟨(ad.add (k * 2)).block, (ad.add (k * 2)).off + 1, none⟩) (by show (ad.add (k * 2)).block < _; rw [block_add]; exact hbr)).trans S0.out.2.1
                have cx := (hb1.cell (by rw [block_add]; exact hfb)).trans S0.out.2.2
                simp [depsB, Region.binds, netF2] at hF
                simp [stL, depsB, Region.binds, Act.put, hF]
              all_goals try (go_wp2_with fail; exact ⟨rfl, Below.refl _ _⟩)
              · go_wp2_with fail
                refine (wd_Within x (1 + st + k) _ (by omega)).mono ?_
                rw [HF.out]
                rintro e w2 ⟨rfl, rfl⟩
                go_wp2_with fail
                exact ⟨rfl, Below.refl _ _⟩
              · have hw := wd_Words c0 c1 c2 c3 CA co cc (i + 1) w1 (by omega) (HCr.out.grow hb1)
                rw [HCL.out, show ((i + 1 : Nat) : Int) = (i : Int) + 1 by omega] at hw
                go_wp2_with fail
                refine hw.mono ?_
                rintro e w2 ⟨v, rfl, ho2, hb2⟩
                obtain ⟨A, c, rfl, _, hI⟩ := ho2.form
                rw [wordsF_length]
                go_wp2_with fail
                exact ⟨A, c, rfl, hI⟩
              · obtain ⟨⟨A, ⟨c, e25⟩, hI⟩, e26⟩ := hF
                obtain ⟨a, u, rfl, hab, hu, hcu, _, _⟩ := hI.at_ (k := i) (by rw [wordsF_length]; omega)
                have huy : u = y := by
                  unfold wordsF at hu
                  rw [List.getElem?_map, List.getElem?_range (by omega)] at hu
                  simp at hu
                  rw [← hu, HY.out]
                rw [e25]
                have x6 : (i : Int) < (i : Int) + 1 := by omega
                go_wp2_with fail
                exact ⟨⟨a.add i, rfl, by rw [block_add]; exact hab, by rw [hcu, huy]⟩, Below.refl _ _⟩
              · obtain ⟨p, e27, hpb, hpc⟩ := hF
                rw [e27]
                go_wp2_with fail
                exact ⟨rfl, Below.refl _ _⟩
              · go_wp2_with fail
                exact ⟨⟨_, rfl, hb1.size, Box.new rfl⟩, Below.alloc (Below.refl _ _) (Nat.le_refl _) _⟩
            --]b
            · intro vs w1 hb1 hF
              have e29 : vs 29 = .agg #[.int .i64 f, .int .i64 y] := hF 29 (by decide)
              obtain ⟨p, e30, hpb, hBt⟩ := hF 30 (by decide)
              simp [stL, Act.put, e29, e30]
              obtain ⟨t1, t2⟩ := hBt.c2
              have tf := hBt.2.2
              have tl := hBt.1
              clear hF e29 e30
              generalize vs 0 = r0
              generalize vs 1 = r1
              generalize vs 2 = r2
              generalize vs 3 = r3
              generalize vs 4 = r4
              generalize vs 5 = r5
              generalize vs 6 = r6
              generalize vs 7 = r7
              generalize vs 8 = r8
              generalize vs 9 = r9
              generalize vs 10 = r10
              generalize vs 11 = r11
              generalize vs 12 = r12
              generalize vs 13 = r13
              generalize vs 14 = r14
              generalize vs 15 = r15
              generalize vs 16 = r16
              generalize vs 17 = r17
              generalize vs 18 = r18
              generalize vs 19 = r19
              generalize vs 20 = r20
              generalize vs 21 = r21
              generalize vs 22 = r22
              generalize vs 23 = r23
              generalize vs 24 = r24
              generalize vs 25 = r25
              generalize vs 26 = r26
              generalize vs 27 = r27
              generalize vs 28 = r28
              clear vs
              go_upto_region 11 with fail
              have hBt3 : Box ((w1.setCell ⟨p, 0, none⟩ (.int .i64 f)).setCell ⟨p, 1, none⟩ (.int .i64 y)) p [.int .i64 f, .int .i64 y] := ((hBt.set (k := 0) (u := .int .i64 f)).set (k := 1) (u := .int .i64 y))
              have hb3 : Below wr.heap.size wr ((w1.setCell ⟨p, 0, none⟩ (.int .i64 f)).setCell ⟨p, 1, none⟩ (.int .i64 y)) := (hb1.setCell (p := ⟨p, 0, none⟩) hpb _).setCell (p := ⟨p, 1, none⟩) hpb _
              clear t1 t2 tf tl hBt hb1
              generalize ((w1.setCell ⟨p, 0, none⟩ (.int .i64 f)).setCell ⟨p, 1, none⟩ (.int .i64 y)) = W3 at hBt3 hb3 ⊢
              have HB3 := Lib.hid hBt3
              have HW3 := Lib.hid hb3
              have hp3 := PN.out.go _ _ HPR.out hb3
              obtain ⟨z0, z1, z2, z3, z4, z5, z6⟩ := PN.out.cells _ hp3
              have HP3 := Lib.hid hp3
              clear hBt3 hb3 hp3
              go_upto_if 83 with fail
              clear z0 z1 z2 z3 z4 z5 z6
              go_cut [84] (fun _ wx => ∃ y' : Int, Box wx p [.int .i64 f, .int .i64 y'] ∧ Hid (termB c0 c1 c2 c3 (st + k) (f, y') = true) ∧ I64 y' ∧ Below wr.heap.size wr wx)
              case first =>
                obtain ⟨z0, z1, z2, z3, z4, z5, z6⟩ := PN.out.cells _ HP3.out
                have ca1 := (HW3.out.cell (p := ⟨(ad.add (k * 2)).block, (ad.add (k * 2)).off + 1, none⟩) (by show (ad.add (k * 2)).block < _; rw [block_add]; exact hbr)).trans S0.out.2.1
                obtain ⟨t1, t2⟩ := HB3.out.c2
                have tf := HB3.out.2.2
                cases wh with
                | false =>
                  go_wp2_with fail
                  go_meet
                  exact ⟨y, HB3.out, by show _ = _; rw [termB_eq HQ.out, inB_iff.2 ⟨f1, by omega⟩, ← HY.out, word_fitsR (by have := mkWC_ok cn; rw [HC.out] at this; exact this)]; rfl, HY2.out, HW3.out⟩
                | true =>
                  obtain ⟨s, hs⟩ : ∃ s, withinF (atF co i) 3 = s := ⟨_, rfl⟩
                  have hs1 := within_in (m := 3) (by omega) (atF co i)
                  rw [hs] at hs1
                  obtain ⟨g1, g2⟩ := hs1
                  obtain ⟨y2, hy2⟩ : ∃ y2, Q * (s - 1) = y2 := ⟨_, rfl⟩
                  have hy3 : -Q ≤ y2 ∧ y2 ≤ Q := by
                    rcases (show s = 0 ∨ s = 1 ∨ s = 2 by omega) with rfl | rfl | rfl <;> omega
                  obtain ⟨hy3, hy4⟩ := hy3
                  have hat : Hid (∀ w, Ints w CA co → Calls Tryd.prog 24 #[.slice CA cl cc, .int .i64 i] w fun e w' => e = .returned (.int .i64 (atF co i)) ∧ w = w') := fun w h => by have := wd_At CA co cc i w h; rw [HCL.out] at this; exact this
                  have hwi : Hid (∀ w, Calls Tryd.prog 23 #[.int .i64 (atF co i), .int .i64 3] w fun e w' => e = .returned (.int .i64 s) ∧ w = w') := fun w => by rw [← hs]; exact wd_Within _ _ w (by omega)
                  have HUT := Lib.hid (unit_term (c0 := c0) (c1 := c1) (c2 := c2) (c3 := c3) (last := st + k) (f := f) (by have := mkWC_ok cn; rw [HC.out] at this; exact this) HQ.out ⟨f1, by omega⟩ ⟨g1, g2⟩ hy2)
                  clear hs
                  go_wp2_with (first
                    | (go_at_call 24; refine (hat.out _ (HCr.out.grow HW3.out)).mono ?_; rintro e w4 ⟨rfl, rfl⟩)
                    | (go_at_call 23; refine (hwi.out _).mono ?_; rintro e w4 ⟨rfl, rfl⟩))
                  go_meet
                  exact ⟨y2, HB3.out.set (k := 1) (u := .int .i64 y2), HUT.out, ⟨by omega, by omega⟩, HW3.out.setCell (p := ⟨p, 1, none⟩) hpb _⟩
              case rest =>
                obtain ⟨y', hBt, HTM, hy', hbx⟩ := hcut
                have hBT := HBT.out.keep hbx
                have hOT := HOT.out.grow hbx
                obtain ⟨t1, t2⟩ := hBt.c2
                have t3 := hBT.2.1 0
                have tf := hBT.2.2
                have tl := hBT.1
                simp only [List.getElem?_cons_zero] at t3
                have hsz := hbx.size
                have HBT2 := Lib.hid hBT
                have HX := Lib.hid hbx
                have HI2 := Lib.hid hy'
                have hlen : ts.length ≤ 4 := by have := HTL.out; omega
                have hIf : I64 f := ⟨by omega, by omega⟩
                have hn1 : ts.length + 1 ≤ 100000000 := by omega
                have hbs : wo.heap.size + 1 ≤ (wc.alloc (.cells #[.int .i64 f, .int .i64 y'] 80)).heap.size := by simp; omega
                have HNT : Hid (some wo.heap.size ≠ T.ownBlock) := fun e => by have := (hOT.1.lt _ e.symm).1; omega
                have HLT : Hid (∀ g, T.ownBlock = some g → wo.heap.size + 1 ≤ g) := fun g e => (hOT.1.lt g e).1
                clear hlen
                go_wp2_with (at_builtin; refine app_terms (wc.alloc (.cells #[.int .i64 f, .int .i64 y'] 80)) rfl _ _ rfl (wo.heap.size + 1) (m := [(f, y')]) rfl rfl (hOT.grow (Below.alloc (Below.refl _ _) (Nat.le_refl _) _)) (terms_one hIf HI2.out) rfl hn1 hbs ?_; intro v3 w3 ho3 hg3 hob3; have hB3 := (HBT2.out.alloc (.cells #[.int .i64 f, .int .i64 y'] 80)).grown hg3 HNT.out; have t4 : w3.cell? ⟨wo.heap.size, 0, none⟩ = some T := hB3.2.1 0; have tf4 := hB3.2.2; obtain ⟨A3, c3x, rfl⟩ := ho3.form1)
                go_roundw
                case rel =>
                  refine ⟨i + 1, ts ++ [(f, y')], _, by go_num, by omega, by omega, hB3.set (k := 0), ho3.store (by omega), by rw [List.length_append, HTL.out]; rfl, fun t ht => ?_, ?_⟩
                  · rcases List.mem_append.1 ht with ht | ht
                    · exact HT.out t ht
                    · simp at ht; subst ht; exact HTM.out
                  · have h1 := HBW.out.trans (HX.out.mono HBW.out.size)
                    have h2 := (h1.alloc h1.size (.cells #[.int .i64 f, .int .i64 y'] 80)).grown hg3 (by simp; omega) (fun g e => by have := HLT.out g e; omega)
                    exact h2.setCell (p := ⟨wo.heap.size, 0, none⟩) (Nat.le_refl _) _
                case measure => simp [intOf]; omega
          · have hB := HB.out.keep hbw
            obtain ⟨A, c, hTe, _, hTA⟩ := hOT.form
            subst hTe
            obtain ⟨⟨y1, y2, y3, y4⟩, ⟨y5, y6, y7, y8⟩, y9, y10, y11, y12⟩ := hB.c12
            have t3 := hBT.2.1 0
            simp only [List.getElem?_cons_zero] at t3
            have hlt2 : ¬ i < fl ∨ ¬ i < 4 := by omega
            have hND := HO.out.grow hbw
            have HNE : Hid (ts ≠ [] → ∀ a, A = some a → q + 1 ≤ a.block ∧ some a.block ≠ V.ownBlock) := fun _ a ha => by
              have h1 := (hOT.1.lt a.block (by rw [ha]; rfl)).1
              refine ⟨by omega, fun e => ?_⟩
              have h2 := (HO.out.lt _ e.symm).2
              omega
            have hns : ns.length ≤ 1000 := by have := HNL.out; omega
            have hqs2 : q + 1 ≤ wr.heap.size := by have := hbw.size; omega
            have HNQ : Hid (some q ≠ V.ownBlock) := fun e => by have := (HO.out.lt _ e.symm).1; omega
            have HBq := Lib.hid hB
            have HTL := Lib.hid htl
            have hbf := hB.2.2
            have hqlt := hB.1
            have x3 : (0 : Int) ≤ (i : Int) := by omega
            have HPr := Lib.hid hpr
            have HVB : Hid (∀ g, V.ownBlock = some g → q + 1 ≤ g) := fun g e => (HO.out.lt g e).1
            have hal := HBq.out.alloc (.cells #[.slice A ts.length c] 36)
            have HAL := Lib.hid hal
            clear hB hBT hOT hbw hpr htl hal
            have hpg : ∀ {w3 : World}, Below (q + 1) wr w3 → P w3 := fun {w3} h => PN.out.gl _ _ HPr.out (h.mono (by omega))
            by_cases hia : i < fl
            · have x4 : (i : Int) < (fl : Int) := by omega
              have x5 : decide ((i : Int) < 4) = false := by simp; omega
              go_wp2_with (at_builtin; refine app_node wr rfl _ _ rfl (q + 1) hND rfl rfl rfl hTA HNE.out hns hqs2 ?_; intro v3 w3 ho3 hb3 hg3 hob3; have hB3 := HAL.out.grown hg3 HNQ.out; have t4 : w3.cell? ⟨q, 9, none⟩ = some V := hB3.2.1 9; have tf4 := hB3.2.2; obtain ⟨A3, c3x, rfl⟩ := ho3.form1)
              go_roundw
              case rel =>
                have hpw := PN.out.gr _ _ q (hpg hb3) (grown_set (grown_refl w3 (some q)) (k := 9) (u := .slice A3 (ns.length + 1) c3x)) hqb
                refine ⟨k + 1, ns ++ [ts], _, by go_num, by omega, by omega, hB3.set (k := 9), ho3.store (by omega), by rw [List.length_append, HNL.out]; rfl, fun j l hj => ?_, hpw⟩
                rw [List.getElem?_append] at hj
                split at hj
                · exact HG.out j l hj
                · rename_i hjn
                  have hj0 : j - ns.length = 0 := by
                    rcases Nat.eq_zero_or_pos (j - ns.length) with h | h
                    · exact h
                    · rw [List.getElem?_eq_none (by simp; omega)] at hj; cases hj
                  rw [hj0] at hj
                  simp at hj
                  subst hj
                  have hjk : j = k := by have := HNL.out; omega
                  subst hjk
                  have hl4 : ts.length ≤ 4 := by have := HTL.out; omega
                  refine ⟨?_, hl4⟩
                  unfold nodeB
                  rw [decide_eq_true (by omega), Bool.true_and]
                  exact List.all_eq_true.2 HT.out
              case measure => simp [intOf]; omega
            · have x4 : decide ((i : Int) < (fl : Int)) = false := by simp; omega
              go_wp2_with (at_builtin; refine app_node wr rfl _ _ rfl (q + 1) hND rfl rfl rfl hTA HNE.out hns hqs2 ?_; intro v3 w3 ho3 hb3 hg3 hob3; have hB3 := HAL.out.grown hg3 HNQ.out; have t4 : w3.cell? ⟨q, 9, none⟩ = some V := hB3.2.1 9; have tf4 := hB3.2.2; obtain ⟨A3, c3x, rfl⟩ := ho3.form1)
              go_roundw
              case rel =>
                have hpw := PN.out.gr _ _ q (hpg hb3) (grown_set (grown_refl w3 (some q)) (k := 9) (u := .slice A3 (ns.length + 1) c3x)) hqb
                refine ⟨k + 1, ns ++ [ts], _, by go_num, by omega, by omega, hB3.set (k := 9), ho3.store (by omega), by rw [List.length_append, HNL.out]; rfl, fun j l hj => ?_, hpw⟩
                rw [List.getElem?_append] at hj
                split at hj
                · exact HG.out j l hj
                · rename_i hjn
                  have hj0 : j - ns.length = 0 := by
                    rcases Nat.eq_zero_or_pos (j - ns.length) with h | h
                    · exact h
                    · rw [List.getElem?_eq_none (by simp; omega)] at hj; cases hj
                  rw [hj0] at hj
                  simp at hj
                  subst hj
                  have hjk : j = k := by have := HNL.out; omega
                  subst hjk
                  have hl4 : ts.length ≤ 4 := by have := HTL.out; omega
                  refine ⟨?_, hl4⟩
                  unfold nodeB
                  rw [decide_eq_true (by omega), Bool.true_and]
                  exact List.all_eq_true.2 HT.out
              case measure => simp [intOf]; omega
      · have hlt2 : ¬ k < wn ∨ ¬ k < 4 := by omega
        obtain ⟨NA, nc, rfl, hNA⟩ := hO.form
        rw [hnl] at hB y10
        obtain ⟨S, hS⟩ := Int.eq_ofNat_of_zero_le s1
        subst hS
        have HB := Lib.hid hB
        rw [hnl] at hO
        have HO := Lib.hid hO
        have HNL := Lib.hid hnl
        have HPP := Lib.hid hp
        have hqs := hB.1
        have hdec : ((k : Int) < (wn : Int) ∧ decide ((k : Int) < 4) = false) ∨ (wn : Int) ≤ (k : Int) := by
          by_cases h : k < wn
          · left; simp; omega
          · right; omega
        clear hB hO hp hnl
        obtain ⟨wo, rfl⟩ : ∃ wo : World, wo = wr := ⟨_, rfl⟩
        rcases hdec with ⟨x4, x5⟩ | x4
        --[c
        · go_wp2_with fail
          clear z0 z1 z2 z3 z4 z5 z6 y1 y2 y3 y4 y5 y6 y7 y8 y9 y10 y11 y12 x4
          go_loopw [9] (fun s wr => ∃ (j : Nat) (nl : List Int) (X : Value), s = .int .i64 j ∧ j ≤ S ∧ Box wr q [.int .i64 d0, .int .i64 d1, .int .i64 d2, .int .i64 d3, .int .i64 c0, .int .i64 c1, .int .i64 c2, .int .i64 c3, .int .i64 (S : Int), .slice NA k nc, X, .int .i64 0] ∧ Own wo.heap.size wr X nl ∧ nl.length = j ∧ Hid (∀ v ∈ nl, inB v 0 ((S : Int) + k) = true) ∧ wo.grownBy wr (some q)) (fun s _ => S - (intOf s).toNat)
          case atStart => exact ⟨0, [], .slice none 0 0, rfl, Nat.zero_le _, HB.out, Own.nil, rfl, fun v h => absurd h (List.not_mem_nil), grown_refl _ _⟩
          case round =>
            obtain ⟨j, nl, X, rfl, hjS, hBj, hOj, hnlj, HIN, hgj⟩ := hrel
            have hpj := PN.out.gr _ _ q HPP.out hgj hqb
            obtain ⟨z0, z1, z2, z3, z4, z5, z6⟩ := PN.out.cells _ hpj
            obtain ⟨⟨y1, y2, y3, y4⟩, ⟨y5, y6, y7, y8⟩, y9, y10, y11, y12⟩ := hBj.c12
            by_cases hlj : j < S
            · obtain ⟨u, hu⟩ : ∃ u, withinF (atF nx j) (1 + (S : Int) + k) = u := ⟨_, rfl⟩
              have hu1 := within_in (m := 1 + (S : Int) + k) (by omega) (atF nx j)
              rw [hu] at hu1
              obtain ⟨u1, u2⟩ := hu1
              have hat : Hid (∀ w, Ints w XA nx → Calls Tryd.prog 24 #[.slice XA xn xc, .int .i64 j] w fun e w' => e = .returned (.int .i64 (atF nx j)) ∧ w = w') := fun w h => by have := wd_At XA nx xc j w h; rw [HXN.out] at this; exact this
              have hwi : Hid (∀ w, Calls Tryd.prog 23 #[.int .i64 (atF nx j), .int .i64 (1 + (S : Int) + k)] w fun e w' => e = .returned (.int .i64 u) ∧ w = w') := fun w => by rw [← hu]; exact wd_Within _ _ w (by omega)
              have HPJ := Lib.hid hpj
              have HBJ := Lib.hid hBj
              have HNJ := Lib.hid hnlj
              have HGJ := Lib.hid hgj
              have hI : I64 u := ⟨by omega, by omega⟩
              have hlen' : nl.length < 100000000 := by omega
              have hown2 : Own wo.heap.size wr.drew X nl := hOj
              have hsz : wo.heap.size ≤ wr.drew.heap.size := hgj.size
              have f1 : IntKind.i64.wrap (1 + (S : Int)) = 1 + (S : Int) := IntWalk.i64_in _ (by omega)
              have f2 : IntKind.i64.wrap (1 + (S : Int) + k) = 1 + (S : Int) + k := IntWalk.i64_in _ (by omega)
              have HIR : Hid (∀ w', Below wr.heap.size wr w' → Ints w' XA nx) := fun w' h => PN.out.next _ (PN.out.go _ _ hpj h)
              have S0 : Hid ((wr.cell? ⟨w.heap.size, 4, none⟩ = some (.slice XA xn xc) ∧ wr.cell? ⟨q, 8, none⟩ = some (.int .i64 (S : Int))) ∧ wr.cell? ⟨q, 9, none⟩ = some (.slice NA k nc) ∧ wr.cell? ⟨q, 10, none⟩ = some X) := ⟨⟨z4, y9⟩, y10, y11⟩
              have hqr := hBj.1
              have hwr : w.heap.size < wr.heap.size := by have := PN.out.lt _ hpj; omega
              have HOJ := Lib.hid hOj
              clear hu hBj hOj hnlj hpj hgj z0 z1 z2 z3 z5 z6 y1 y2 y3 y4 y5 y6 y7 y8 y12 hown2 hsz
              go_upto_region 18 with fail
              clear z4 y9 y10 y11
              refine wp_region_grow2 (fun i => Nat.blt i 15) (fun _ => false) (Below wr.heap.size wr) (fun w1 w2 => Below w1.heap.size w1 w2) (netF3 w.heap.size q X XA NA xn xc k nc j (S : Int) u (atF nx j)) (by kernel_rfl) (by kernel_rfl) (Below.drew (Below.refl _ _)) (fun w1 w2 h1 h2 => ⟨below_then h1 h2, fun i _ v => netF3_keep h2 i v⟩) (fun _ _ => Below.refl _ _) ?_ ?_ ?_
              · refine ⟨?_, ?_, ?_, ?_, ?_, ?_, ?_, ?_, ?_, ?_, ?_, ?_, ?_, ?_, ?_, trivial⟩
                all_goals
                  intro vs w1 hb1 hF
                  have z4 := (hb1.cell (p := ⟨w.heap.size, 4, none⟩) hwr).trans S0.out.1.1
                  have y9 := (hb1.cell (p := ⟨q, 8, none⟩) hqr).trans S0.out.1.2
                  have y10 := (hb1.cell (p := ⟨q, 9, none⟩) hqr).trans S0.out.2.1
                  have y11 := (hb1.cell (p := ⟨q, 10, none⟩) hqr).trans S0.out.2.2
                  simp [depsB, Region.binds, netF3] at hF
                  simp [stL, depsB, Region.binds, Act.put, hF]
                all_goals try (go_wp2_with fail; exact ⟨rfl, Below.refl _ _⟩)
                · go_wp2_with fail
                  refine (hat.out _ (HIR.out _ hb1)).mono ?_
                  rintro e w3 ⟨rfl, rfl⟩
                  go_wp2_with fail
                  exact ⟨rfl, Below.refl _ _⟩
                · go_wp2_with fail
                  refine (hwi.out _).mono ?_
                  rintro e w3 ⟨rfl, rfl⟩
                  go_wp2_with fail
                  exact ⟨rfl, Below.refl _ _⟩
                · go_wp2_with fail
                  exact ⟨⟨_, rfl, lit_one hI⟩, Below.alloc (Below.refl _ _) (Nat.le_refl _) _⟩
              · intro j' o hj' _ hl
                exact absurd hl (by simp)
              · intro vs w1 hb1 hF
                have e1 : vs 1 = X := hF 1 (by decide) (by decide)
                obtain ⟨p, e14, hIp⟩ := hF 14 (by decide) (by decide)
                obtain ⟨B1, B2⟩ : Hid (wo.grownBy w1 (some q)) ∧ Hid (P w1) := ⟨grown_below HGJ.out hb1, PN.out.go _ _ HPJ.out hb1⟩
                have hOX := HOJ.out.grow hb1
                have hBX := HBJ.out.keep hb1
                have hlx : nl.length + 1 ≤ 100000000 := by omega
                have hbx : wo.heap.size ≤ w1.heap.size := B1.out.size
                have HXB : Hid (∀ g, X.ownBlock = some g → wo.heap.size ≤ g) := fun g e => (HOJ.out.1.lt g e).1
                have HXQ : Hid (some q ≠ X.ownBlock) := fun e => by have := HXB.out q e.symm; omega
                obtain ⟨v0, hv0⟩ : ∃ v0, vs = v0 := ⟨_, rfl⟩
                show wpList Tryd.prog _ _ [_, _, _] _ _
                simp [stL, Act.put, e1, e14]
                go_wp2_with (at_builtin; refine app_ints w1 rfl _ _ rfl wo.heap.size (v := X) (m := [u]) rfl rfl hOX hIp hlx hbx ?_; intro v3 w3 hown3 hg3 hob3; have hB3 := hBX.grown hg3 HXQ.out; have t4 := hB3.2.1 10; have tf4 := hB3.2.2; obtain ⟨A3, c3x, rfl⟩ := hown3.form1)
                go_roundw
                case rel =>
                  refine ⟨j + 1, nl ++ [u], _, by go_num, by omega, hB3.set (k := 10), hown3.storeH hqs, by rw [List.length_append, HNJ.out]; rfl, fun v hv => ?_, grown_set (grown_past B1.out hg3 HXB.out)⟩
                  rcases List.mem_append.1 hv with hv | hv
                  · exact HIN.out v hv
                  · simp at hv; subst hv; exact inB_iff.2 ⟨by omega, by omega⟩
                case measure => simp [intOf]; omega
            · obtain rfl : j = S := by omega
              obtain ⟨o, ho⟩ : ∃ o, withinF out (1 + (j : Int) + k) = o := ⟨_, rfl⟩
              have ho1 := within_in (m := 1 + (j : Int) + k) (by omega) out
              rw [ho] at ho1
              obtain ⟨u1, u2⟩ := ho1
              have hwi : Hid (∀ w, Calls Tryd.prog 23 #[.int .i64 out, .int .i64 (1 + (j : Int) + k)] w fun e w' => e = .returned (.int .i64 o) ∧ w = w') := fun w => by rw [← ho]; exact wd_Within _ _ w (by omega)
              obtain ⟨XB, xbc, rfl, _, hXB⟩ := hOj.form
              rw [hnlj] at y11 hBj
              have hres := PN.out.res _ hpj
              obtain ⟨⟨r1, r2, r3, r4⟩, ⟨r5, r6, r7, r8⟩, r9, r10, r11, r12⟩ := hres.c12
              have hrf := hres.2.2
              have hrl := hres.1
              have hbf := hBj.2.2
              have hbl := hBj.1
              have HRE := Lib.hid hres
              have HBJ := Lib.hid hBj
              have HOJ := Lib.hid hOj
              have HNJ := Lib.hid hnlj
              have HGJ := Lib.hid hgj
              have HPJ := Lib.hid hpj
              have f1 : IntKind.i64.wrap (1 + (j : Int)) = 1 + (j : Int) := IntWalk.i64_in _ (by omega)
              have f2 : IntKind.i64.wrap (1 + (j : Int) + k) = 1 + (j : Int) + k := IntWalk.i64_in _ (by omega)
              clear ho hres hBj hOj hnlj hgj hpj hXB
              go_wp2_with (first | (go_at_call 23; refine (hwi.out _).mono ?_; rintro e w4 ⟨rfl, rfl⟩))
              obtain ⟨W7, hW7⟩ : ∃ W7, wr.setCell ⟨q, 11, none⟩ (.int .i64 o) = W7 := ⟨_, rfl⟩
              rw [hW7]
              clear r1 r2 r3 r4 r5 r6 r7 r8 r9 r10 r11 r12 hrf hbf y1 y2 y3 y4 y5 y6 y7 y8 y9 y10 y11 y12 z0 z1 z2 z3 z4 z5 z6
              have hRE7 : Box W7 (w.heap.size + 1) zeros12' := by rw [← hW7]; exact HRE.out.past (by omega)
              have hOJ7 : Own wo.heap.size W7 (.slice XB j xbc) nl := by
                rw [← hW7]
                have h := HOJ.out.storeH (g := q) (k := 11) (u := .int .i64 o) hqs
                rw [HNJ.out] at h
                exact h
              have hND7 : OwnNd (q + 1) W7 (.slice NA k nc) ns := by rw [← hW7]; exact (HO.out.away HGJ.out (by omega)).store (by omega)
              have hB7 : Below w.heap.size w W7 := by rw [← hW7]; exact (PN.out.old _ HPJ.out).setCell (p := ⟨q, 11, none⟩) (by show _ ≤ q; omega) _
              have hR8 := hRE7.fill12 (.int .i64 d0) (.int .i64 d1) (.int .i64 d2) (.int .i64 d3) (.int .i64 c0) (.int .i64 c1) (.int .i64 c2) (.int .i64 c3) (.int .i64 (j : Int)) (.slice NA k nc) (.slice XB j xbc) (.int .i64 o)
              have hg8 := fill12_grown W7 (w.heap.size + 1) (.int .i64 d0) (.int .i64 d1) (.int .i64 d2) (.int .i64 d3) (.int .i64 c0) (.int .i64 c1) (.int .i64 c2) (.int .i64 c3) (.int .i64 (j : Int)) (.slice NA k nc) (.slice XB j xbc) (.int .i64 o)
              unfold fill12 at hR8 hg8
              generalize ((((((((((((W7.setCell ⟨w.heap.size + 1, 0, none⟩ (.int .i64 d0)).setCell ⟨w.heap.size + 1, 1, none⟩ (.int .i64 d1)).setCell ⟨w.heap.size + 1, 2, none⟩ (.int .i64 d2)).setCell ⟨w.heap.size + 1, 3, none⟩ (.int .i64 d3)).setCell ⟨w.heap.size + 1, 4, none⟩ (.int .i64 c0)).setCell ⟨w.heap.size + 1, 5, none⟩ (.int .i64 c1)).setCell ⟨w.heap.size + 1, 6, none⟩ (.int .i64 c2)).setCell ⟨w.heap.size + 1, 7, none⟩ (.int .i64 c3)).setCell ⟨w.heap.size + 1, 8, none⟩ (.int .i64 (j : Int))).setCell ⟨w.heap.size + 1, 9, none⟩ (.slice NA k nc)).setCell ⟨w.heap.size + 1, 10, none⟩ (.slice XB j xbc)).setCell ⟨w.heap.size + 1, 11, none⟩ (.int .i64 o)) = W8 at hR8 hg8 ⊢
              obtain ⟨⟨g1, g2, g3, g4⟩, ⟨g5, g6, g7, g8⟩, g9, g10, g11, g12⟩ := hR8.c12
              refine bodyPost_ret (v := netV d0 d1 d2 d3 c0 c1 c2 c3 (j : Int) NA k nc XB j xbc o) (by simp [results, Tryd.results14, go_sem, g1, g2, g3, g4, g5, g6, g7, g8, g9, g10, g11, g12]) rfl ?_
              have hND8 := hND7.away hg8 (by omega)
              have hOJ8 : Own wo.heap.size W8 (.slice XB j xbc) nl := ⟨hOJ7.1.kept hg8 (.inr (fun e => by have := (hOJ7.1.lt _ e).1; omega)), hOJ7.2⟩
              obtain ⟨_, _, e1, hN8⟩ := hND8.form
              injection e1 with e1
              subst e1
              obtain ⟨_, _, e2, _, hX8⟩ := hOJ8.form
              injection e2 with e2
              subst e2
              refine ⟨d0, d1, d2, d3, c0, c1, c2, c3, (j : Int), ns, nl, o, NA, nc, XB, xbc, by rw [HNL.out, HNJ.out], HD.out, HC.out, hN8, hX8, grown_to hB7 hg8 (by omega), ?_, s2, by have := HNL.out; omega, fun ts hts => ?_, ?_, ?_⟩
              · have hokd := mkWD_ok dn
                rw [HD.out] at hokd
                have hokc := mkWC_ok cn
                rw [HC.out] at hokc
                rw [netB_end]
                · rw [inB_iff, HNL.out]; omega
                · unfold netHeadB
                  rw [hokd, hokc, inB_iff.2 ⟨by omega, by omega⟩, decide_eq_true (by have := HNL.out; omega), HNJ.out]
                  simp
                · unfold nodesB
                  refine List.all_eq_true.2 fun i hi => ?_
                  cases h : ns[i]? with
                  | none => rfl
                  | some ts => exact (HG.out i ts h).1
                · refine List.all_eq_true.2 fun v hv => ?_
                  rw [HNL.out]
                  exact HIN.out v hv
              · obtain ⟨i, hi⟩ := List.getElem?_of_mem hts
                exact (HG.out i ts hi).2
              · exact hND8.formF (by omega)
              · exact fun _ a ha => by subst ha; have := (hOJ8.1.lt a.block rfl).1; omega
        --]c
        · go_wp2_with fail
          clear z0 z1 z2 z3 z4 z5 z6 y1 y2 y3 y4 y5 y6 y7 y8 y9 y10 y11 y12 x4
          go_loopw [9] (fun s wr => ∃ (j : Nat) (nl : List Int) (X : Value), s = .int .i64 j ∧ j ≤ S ∧ Box wr q [.int .i64 d0, .int .i64 d1, .int .i64 d2, .int .i64 d3, .int .i64 c0, .int .i64 c1, .int .i64 c2, .int .i64 c3, .int .i64 (S : Int), .slice NA k nc, X, .int .i64 0] ∧ Own wo.heap.size wr X nl ∧ nl.length = j ∧ Hid (∀ v ∈ nl, inB v 0 ((S : Int) + k) = true) ∧ wo.grownBy wr (some q)) (fun s _ => S - (intOf s).toNat)
          case atStart => exact ⟨0, [], .slice none 0 0, rfl, Nat.zero_le _, HB.out, Own.nil, rfl, fun v h => absurd h (List.not_mem_nil), grown_refl _ _⟩
          case round =>
            obtain ⟨j, nl, X, rfl, hjS, hBj, hOj, hnlj, HIN, hgj⟩ := hrel
            have hpj := PN.out.gr _ _ q HPP.out hgj hqb
            obtain ⟨z0, z1, z2, z3, z4, z5, z6⟩ := PN.out.cells _ hpj
            obtain ⟨⟨y1, y2, y3, y4⟩, ⟨y5, y6, y7, y8⟩, y9, y10, y11, y12⟩ := hBj.c12
            by_cases hlj : j < S
            · obtain ⟨u, hu⟩ : ∃ u, withinF (atF nx j) (1 + (S : Int) + k) = u := ⟨_, rfl⟩
              have hu1 := within_in (m := 1 + (S : Int) + k) (by omega) (atF nx j)
              rw [hu] at hu1
              obtain ⟨u1, u2⟩ := hu1
              have hat : Hid (∀ w, Ints w XA nx → Calls Tryd.prog 24 #[.slice XA xn xc, .int .i64 j] w fun e w' => e = .returned (.int .i64 (atF nx j)) ∧ w = w') := fun w h => by have := wd_At XA nx xc j w h; rw [HXN.out] at this; exact this
              have hwi : Hid (∀ w, Calls Tryd.prog 23 #[.int .i64 (atF nx j), .int .i64 (1 + (S : Int) + k)] w fun e w' => e = .returned (.int .i64 u) ∧ w = w') := fun w => by rw [← hu]; exact wd_Within _ _ w (by omega)
              have HPJ := Lib.hid hpj
              have HBJ := Lib.hid hBj
              have HNJ := Lib.hid hnlj
              have HGJ := Lib.hid hgj
              have hI : I64 u := ⟨by omega, by omega⟩
              have hlen' : nl.length < 100000000 := by omega
              have hown2 : Own wo.heap.size wr.drew X nl := hOj
              have hsz : wo.heap.size ≤ wr.drew.heap.size := hgj.size
              have f1 : IntKind.i64.wrap (1 + (S : Int)) = 1 + (S : Int) := IntWalk.i64_in _ (by omega)
              have f2 : IntKind.i64.wrap (1 + (S : Int) + k) = 1 + (S : Int) + k := IntWalk.i64_in _ (by omega)
              have HIR : Hid (∀ w', Below wr.heap.size wr w' → Ints w' XA nx) := fun w' h => PN.out.next _ (PN.out.go _ _ hpj h)
              have S0 : Hid ((wr.cell? ⟨w.heap.size, 4, none⟩ = some (.slice XA xn xc) ∧ wr.cell? ⟨q, 8, none⟩ = some (.int .i64 (S : Int))) ∧ wr.cell? ⟨q, 9, none⟩ = some (.slice NA k nc) ∧ wr.cell? ⟨q, 10, none⟩ = some X) := ⟨⟨z4, y9⟩, y10, y11⟩
              have hqr := hBj.1
              have hwr : w.heap.size < wr.heap.size := by have := PN.out.lt _ hpj; omega
              have HOJ := Lib.hid hOj
              clear hu hBj hOj hnlj hpj hgj z0 z1 z2 z3 z5 z6 y1 y2 y3 y4 y5 y6 y7 y8 y12 hown2 hsz
              go_upto_region 18 with fail
              clear z4 y9 y10 y11
              refine wp_region_grow2 (fun i => Nat.blt i 15) (fun _ => false) (Below wr.heap.size wr) (fun w1 w2 => Below w1.heap.size w1 w2) (netF3 w.heap.size q X XA NA xn xc k nc j (S : Int) u (atF nx j)) (by kernel_rfl) (by kernel_rfl) (Below.drew (Below.refl _ _)) (fun w1 w2 h1 h2 => ⟨below_then h1 h2, fun i _ v => netF3_keep h2 i v⟩) (fun _ _ => Below.refl _ _) ?_ ?_ ?_
              · refine ⟨?_, ?_, ?_, ?_, ?_, ?_, ?_, ?_, ?_, ?_, ?_, ?_, ?_, ?_, ?_, trivial⟩
                all_goals
                  intro vs w1 hb1 hF
                  have z4 := (hb1.cell (p := ⟨w.heap.size, 4, none⟩) hwr).trans S0.out.1.1
                  have y9 := (hb1.cell (p := ⟨q, 8, none⟩) hqr).trans S0.out.1.2
                  have y10 := (hb1.cell (p := ⟨q, 9, none⟩) hqr).trans S0.out.2.1
                  have y11 := (hb1.cell (p := ⟨q, 10, none⟩) hqr).trans S0.out.2.2
                  simp [depsB, Region.binds, netF3] at hF
                  simp [stL, depsB, Region.binds, Act.put, hF]
                all_goals try (go_wp2_with fail; exact ⟨rfl, Below.refl _ _⟩)
                · go_wp2_with fail
                  refine (hat.out _ (HIR.out _ hb1)).mono ?_
                  rintro e w3 ⟨rfl, rfl⟩
                  go_wp2_with fail
                  exact ⟨rfl, Below.refl _ _⟩
                · go_wp2_with fail
                  refine (hwi.out _).mono ?_
                  rintro e w3 ⟨rfl, rfl⟩
                  go_wp2_with fail
                  exact ⟨rfl, Below.refl _ _⟩
                · go_wp2_with fail
                  exact ⟨⟨_, rfl, lit_one hI⟩, Below.alloc (Below.refl _ _) (Nat.le_refl _) _⟩
              · intro j' o hj' _ hl
                exact absurd hl (by simp)
              · intro vs w1 hb1 hF
                have e1 : vs 1 = X := hF 1 (by decide) (by decide)
                obtain ⟨p, e14, hIp⟩ := hF 14 (by decide) (by decide)
                obtain ⟨B1, B2⟩ : Hid (wo.grownBy w1 (some q)) ∧ Hid (P w1) := ⟨grown_below HGJ.out hb1, PN.out.go _ _ HPJ.out hb1⟩
                have hOX := HOJ.out.grow hb1
                have hBX := HBJ.out.keep hb1
                have hlx : nl.length + 1 ≤ 100000000 := by omega
                have hbx : wo.heap.size ≤ w1.heap.size := B1.out.size
                have HXB : Hid (∀ g, X.ownBlock = some g → wo.heap.size ≤ g) := fun g e => (HOJ.out.1.lt g e).1
                have HXQ : Hid (some q ≠ X.ownBlock) := fun e => by have := HXB.out q e.symm; omega
                obtain ⟨v0, hv0⟩ : ∃ v0, vs = v0 := ⟨_, rfl⟩
                show wpList Tryd.prog _ _ [_, _, _] _ _
                simp [stL, Act.put, e1, e14]
                go_wp2_with (at_builtin; refine app_ints w1 rfl _ _ rfl wo.heap.size (v := X) (m := [u]) rfl rfl hOX hIp hlx hbx ?_; intro v3 w3 hown3 hg3 hob3; have hB3 := hBX.grown hg3 HXQ.out; have t4 := hB3.2.1 10; have tf4 := hB3.2.2; obtain ⟨A3, c3x, rfl⟩ := hown3.form1)
                go_roundw
                case rel =>
                  refine ⟨j + 1, nl ++ [u], _, by go_num, by omega, hB3.set (k := 10), hown3.storeH hqs, by rw [List.length_append, HNJ.out]; rfl, fun v hv => ?_, grown_set (grown_past B1.out hg3 HXB.out)⟩
                  rcases List.mem_append.1 hv with hv | hv
                  · exact HIN.out v hv
                  · simp at hv; subst hv; exact inB_iff.2 ⟨by omega, by omega⟩
                case measure => simp [intOf]; omega
            · obtain rfl : j = S := by omega
              obtain ⟨o, ho⟩ : ∃ o, withinF out (1 + (j : Int) + k) = o := ⟨_, rfl⟩
              have ho1 := within_in (m := 1 + (j : Int) + k) (by omega) out
              rw [ho] at ho1
              obtain ⟨u1, u2⟩ := ho1
              have hwi : Hid (∀ w, Calls Tryd.prog 23 #[.int .i64 out, .int .i64 (1 + (j : Int) + k)] w fun e w' => e = .returned (.int .i64 o) ∧ w = w') := fun w => by rw [← ho]; exact wd_Within _ _ w (by omega)
              obtain ⟨XB, xbc, rfl, _, hXB⟩ := hOj.form
              rw [hnlj] at y11 hBj
              have hres := PN.out.res _ hpj
              obtain ⟨⟨r1, r2, r3, r4⟩, ⟨r5, r6, r7, r8⟩, r9, r10, r11, r12⟩ := hres.c12
              have hrf := hres.2.2
              have hrl := hres.1
              have hbf := hBj.2.2
              have hbl := hBj.1
              have HRE := Lib.hid hres
              have HBJ := Lib.hid hBj
              have HOJ := Lib.hid hOj
              have HNJ := Lib.hid hnlj
              have HGJ := Lib.hid hgj
              have HPJ := Lib.hid hpj
              have f1 : IntKind.i64.wrap (1 + (j : Int)) = 1 + (j : Int) := IntWalk.i64_in _ (by omega)
              have f2 : IntKind.i64.wrap (1 + (j : Int) + k) = 1 + (j : Int) + k := IntWalk.i64_in _ (by omega)
              clear ho hres hBj hOj hnlj hgj hpj hXB
              go_wp2_with (first | (go_at_call 23; refine (hwi.out _).mono ?_; rintro e w4 ⟨rfl, rfl⟩))
              obtain ⟨W7, hW7⟩ : ∃ W7, wr.setCell ⟨q, 11, none⟩ (.int .i64 o) = W7 := ⟨_, rfl⟩
              rw [hW7]
              clear r1 r2 r3 r4 r5 r6 r7 r8 r9 r10 r11 r12 hrf hbf y1 y2 y3 y4 y5 y6 y7 y8 y9 y10 y11 y12 z0 z1 z2 z3 z4 z5 z6
              have hRE7 : Box W7 (w.heap.size + 1) zeros12' := by rw [← hW7]; exact HRE.out.past (by omega)
              have hOJ7 : Own wo.heap.size W7 (.slice XB j xbc) nl := by
                rw [← hW7]
                have h := HOJ.out.storeH (g := q) (k := 11) (u := .int .i64 o) hqs
                rw [HNJ.out] at h
                exact h
              have hND7 : OwnNd (q + 1) W7 (.slice NA k nc) ns := by rw [← hW7]; exact (HO.out.away HGJ.out (by omega)).store (by omega)
              have hB7 : Below w.heap.size w W7 := by rw [← hW7]; exact (PN.out.old _ HPJ.out).setCell (p := ⟨q, 11, none⟩) (by show _ ≤ q; omega) _
              have hR8 := hRE7.fill12 (.int .i64 d0) (.int .i64 d1) (.int .i64 d2) (.int .i64 d3) (.int .i64 c0) (.int .i64 c1) (.int .i64 c2) (.int .i64 c3) (.int .i64 (j : Int)) (.slice NA k nc) (.slice XB j xbc) (.int .i64 o)
              have hg8 := fill12_grown W7 (w.heap.size + 1) (.int .i64 d0) (.int .i64 d1) (.int .i64 d2) (.int .i64 d3) (.int .i64 c0) (.int .i64 c1) (.int .i64 c2) (.int .i64 c3) (.int .i64 (j : Int)) (.slice NA k nc) (.slice XB j xbc) (.int .i64 o)
              unfold fill12 at hR8 hg8
              generalize ((((((((((((W7.setCell ⟨w.heap.size + 1, 0, none⟩ (.int .i64 d0)).setCell ⟨w.heap.size + 1, 1, none⟩ (.int .i64 d1)).setCell ⟨w.heap.size + 1, 2, none⟩ (.int .i64 d2)).setCell ⟨w.heap.size + 1, 3, none⟩ (.int .i64 d3)).setCell ⟨w.heap.size + 1, 4, none⟩ (.int .i64 c0)).setCell ⟨w.heap.size + 1, 5, none⟩ (.int .i64 c1)).setCell ⟨w.heap.size + 1, 6, none⟩ (.int .i64 c2)).setCell ⟨w.heap.size + 1, 7, none⟩ (.int .i64 c3)).setCell ⟨w.heap.size + 1, 8, none⟩ (.int .i64 (j : Int))).setCell ⟨w.heap.size + 1, 9, none⟩ (.slice NA k nc)).setCell ⟨w.heap.size + 1, 10, none⟩ (.slice XB j xbc)).setCell ⟨w.heap.size + 1, 11, none⟩ (.int .i64 o)) = W8 at hR8 hg8 ⊢
              obtain ⟨⟨g1, g2, g3, g4⟩, ⟨g5, g6, g7, g8⟩, g9, g10, g11, g12⟩ := hR8.c12
              refine bodyPost_ret (v := netV d0 d1 d2 d3 c0 c1 c2 c3 (j : Int) NA k nc XB j xbc o) (by simp [results, Tryd.results14, go_sem, g1, g2, g3, g4, g5, g6, g7, g8, g9, g10, g11, g12]) rfl ?_
              have hND8 := hND7.away hg8 (by omega)
              have hOJ8 : Own wo.heap.size W8 (.slice XB j xbc) nl := ⟨hOJ7.1.kept hg8 (.inr (fun e => by have := (hOJ7.1.lt _ e).1; omega)), hOJ7.2⟩
              obtain ⟨_, _, e1, hN8⟩ := hND8.form
              injection e1 with e1
              subst e1
              obtain ⟨_, _, e2, _, hX8⟩ := hOJ8.form
              injection e2 with e2
              subst e2
              refine ⟨d0, d1, d2, d3, c0, c1, c2, c3, (j : Int), ns, nl, o, NA, nc, XB, xbc, by rw [HNL.out, HNJ.out], HD.out, HC.out, hN8, hX8, grown_to hB7 hg8 (by omega), ?_, s2, by have := HNL.out; omega, fun ts hts => ?_, ?_, ?_⟩
              · have hokd := mkWD_ok dn
                rw [HD.out] at hokd
                have hokc := mkWC_ok cn
                rw [HC.out] at hokc
                rw [netB_end]
                · rw [inB_iff, HNL.out]; omega
                · unfold netHeadB
                  rw [hokd, hokc, inB_iff.2 ⟨by omega, by omega⟩, decide_eq_true (by have := HNL.out; omega), HNJ.out]
                  simp
                · unfold nodesB
                  refine List.all_eq_true.2 fun i hi => ?_
                  cases h : ns[i]? with
                  | none => rfl
                  | some ts => exact (HG.out i ts h).1
                · refine List.all_eq_true.2 fun v hv => ?_
                  rw [HNL.out]
                  exact HIN.out v hv
              · obtain ⟨i, hi⟩ := List.getElem?_of_mem hts
                exact (HG.out i ts hi).2
              · exact hND8.formF (by omega)
              · exact fun _ a ha => by subst ha; have := (hOJ8.1.lt a.block rfl).1; omega
theorem raw_Net (dn cn sn out : Int) (wh : Bool) (WA XA : Option Addr) (wn wc xn xc : Nat) (ws : List (List Int × List Int)) (nx : List Int) (w : World) (hW : WiresAt w WA ws) (hX : Ints w XA nx) (hwn : ws.length = wn) (hxn : nx.length = xn) (h1 : wn ≤ 9223372036854775807) (h2 : xn ≤ 9223372036854775807) :
    Calls Tryd.prog 14 #[rawV dn cn sn WA wn wc XA xn xc out wh] w (RetRaw w dn cn) := by
  refine (raw_NetF dn cn sn out wh WA XA wn wc xn xc ws nx w hW hX hwn hxn h1 h2).mono ?_
  rintro e w' ⟨d0, d1, d2, d3, c0, c1, c2, c3, st, ns, nx, out, NA, nc, XA, xc, h1, h2, h3, h4, h5, h6, h7, h8, h9, h10, -⟩
  exact ⟨d0, d1, d2, d3, c0, c1, c2, c3, st, ns, nx, out, NA, nc, XA, xc, h1, h2, h3, h4, h5, h6, h7, h8, h9, h10⟩
end Go.Proofs.YtdiflpbioohddaaDoor
