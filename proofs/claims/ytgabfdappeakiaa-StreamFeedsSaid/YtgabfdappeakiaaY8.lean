/- Two networks and their places, made in whatever order; the same network read twice. -/
import Derived.Test.YtgabfdappeakiaaY6
import Derived.Test.YtgabfdappeakiaaPu
import Derived.Test.YtgabfdappeakiaaTi
set_option linter.unusedVariables false
set_option linter.unusedSimpArgs false
namespace Go.Proofs.Ytgabfdappeakiaa
open Go.RowKit

theorem terms_uniq {w : World} {A : Option Addr} {a b : List (Int × Int)} (hl : a.length = b.length) (h1 : TermsAt w A a) (h2 : TermsAt w A b) : a = b := by
  refine List.ext_getElem? fun k => ?_
  by_cases hk : k < a.length
  · have e1 := List.getElem?_eq_getElem (l := a) (i := k) hk
    have e2 := List.getElem?_eq_getElem (l := b) (i := k) (by omega)
    obtain ⟨ad, eA, -, c0, c1, -⟩ := h1 k _ e1
    obtain ⟨ad', eA', -, c0', c1', -⟩ := h2 k _ e2
    rw [eA] at eA'
    injection eA' with eA'
    subst eA'
    rw [c0] at c0'
    rw [c1] at c1'
    injection c0' with c0'; injection c0' with _ c0'
    injection c1' with c1'; injection c1' with _ c1'
    rw [e1, e2]
    exact congrArg some (Prod.ext c0' c1')
  · rw [List.getElem?_eq_none (by omega), List.getElem?_eq_none (by omega)]
theorem nodes_uniq {w : World} {A : Option Addr} {a b : List (List (Int × Int))} (hl : a.length = b.length) (h1 : NodesAt w A a) (h2 : NodesAt w A b) : a = b := by
  refine List.ext_getElem? fun k => ?_
  by_cases hk : k < a.length
  · have e1 := List.getElem?_eq_getElem (l := a) (i := k) hk
    have e2 := List.getElem?_eq_getElem (l := b) (i := k) (by omega)
    obtain ⟨ad, B, c, eA, -, c0, ht⟩ := h1 k _ e1
    obtain ⟨ad', B', c', eA', -, c0', ht'⟩ := h2 k _ e2
    rw [eA] at eA'
    injection eA' with eA'
    subst eA'
    rw [c0] at c0'
    injection c0' with c0'; injection c0' with eB eL eC
    rw [← eB] at ht'
    rw [e1, e2]
    exact congrArg some (terms_uniq eL ht ht')
  · rw [List.getElem?_eq_none (by omega), List.getElem?_eq_none (by omega)]
theorem ints_uniq {w : World} {A : Option Addr} {a b : List Int} (hl : a.length = b.length) (h1 : Ints w A a) (h2 : Ints w A b) : a = b := by
  refine List.ext_getElem? fun k => ?_
  by_cases hk : k < a.length
  · obtain ⟨ad, x, eA, -, hx, hc, -⟩ := h1.at_ hk
    obtain ⟨ad', y, eA', -, hy, hc', -⟩ := h2.at_ (k := k) (by omega)
    rw [eA] at eA'
    injection eA' with eA'
    subst eA'
    rw [hc] at hc'
    injection hc' with hc'; injection hc' with _ hc'
    rw [hx, hy, hc']
  · rw [List.getElem?_eq_none (by omega), List.getElem?_eq_none (by omega)]
theorem NetAt.uniq {w : World} {n m : NetD} {NA XA NB XB : Option Addr} {nc xc nb xb : Nat} (hl : n.lst NA nc XA xc = m.lst NB nb XB xb) (h1 : NetAt w n NA XA) (h2 : NetAt w m NB XB) : n = m ∧ NA = NB ∧ nc = nb ∧ XA = XB ∧ xc = xb := by
  obtain ⟨d0, d1, d2, d3, c0, c1, c2, c3, st, out, ns, nx⟩ := n
  obtain ⟨d0', d1', d2', d3', c0', c1', c2', c3', st', out', ns', nx'⟩ := m
  simp only [NetD.lst, List.cons.injEq, Value.int.injEq, Value.slice.injEq, and_true, true_and] at hl
  obtain ⟨rfl, rfl, rfl, rfl, rfl, rfl, rfl, rfl, rfl, ⟨rfl, hn, rfl⟩, ⟨rfl, hx, rfl⟩, rfl⟩ := hl
  obtain rfl := nodes_uniq hn h1.nodes h2.nodes
  obtain rfl := ints_uniq hx h1.next h2.next
  exact ⟨rfl, rfl, rfl, rfl, rfl⟩
/-- A network that a call made. -/
def RN (w1 : World) (v : Value) (w2 : World) : Prop := ∃ (n : NetD) (NA : Option Addr) (nc : Nat) (XA : Option Addr) (xc : Nat), v = .agg (n.lst NA nc XA xc).toArray ∧ n.ok = true ∧ n.st ≤ 3 ∧ n.ns.length ≤ 4 ∧ NetF w1.heap.size w2 n NA XA
theorem NetN.high {b q : Nat} {w w' : World} {n : NetD} {NA XA : Option Addr} (h : NetF b w n NA XA) (hq : w.heap.size ≤ q) (hb : Below w.heap.size w w') : NetN q w' n NA XA := by
  refine ⟨fun k ts hk => ?_, fun hl a ha => ?_⟩
  · obtain ⟨ad, B, c, e, -, h1, h2, h3, -⟩ := h.nodes k ts hk
    exact ⟨ad, B, c, e, by omega, Nat.lt_of_lt_of_le h1 hb.size, (hb.cell (by rw [block_add]; exact h1)).trans h2, fun hl a ha => by have := h3.block hl ha; omega⟩
  · have := ints_block h.next.1 hl ha
    omega
/-- A new block of a network. -/
def NewN (B : World) (v : Value) (w : World) : Prop := ∃ g, v = .pointer (some ⟨g, 0, none⟩) ∧ Box w g zNet ∧ B.heap.size ≤ g
theorem NewN.keep {B : World} {v : Value} {a b : World} (h : NewN B v a) (hb : Below a.heap.size a b) : NewN B v b := by
  obtain ⟨g, e, h1, h2⟩ := h
  exact ⟨g, e, h1.keep hb, h2⟩
/-- The network lies not in the new block. -/
theorem net_free {B w : World} {F : Nat → Value → World → Prop} {G : Nat → Value → World → World → Prop} {ic ia : Nat} {vs : Nat → Value} {g : Nat} {n : NetD} {NA XA : Option Addr} {nc xc : Nat}
    (hFc : ∀ v w, F ic v w → CallF B RN v w) (hFa : ∀ v w, F ia v w → NewN B v w) (hGc : ∀ v a b, G ic v a b → RN a v b) (hGa : ∀ v a b, G ia v a b → v = .pointer (some ⟨a.heap.size, 0, none⟩) ∧ Below a.heap.size a b)
    (e : vs ia = .pointer (some ⟨g, 0, none⟩)) (en : vs ic = .agg (n.lst NA nc XA xc).toArray) (hn : NetAt w n NA XA) (hP : Prior4 F G (fun a b => Below a.heap.size a b) ic ia (vs ic) (vs ia) w ∨ Prior4 F G (fun a b => Below a.heap.size a b) ia ic (vs ia) (vs ic) w) : NetN g w n NA XA := by
  have arr : ∀ {a b : List Value}, (Value.agg a.toArray) = Value.agg b.toArray → a = b := fun h => by
    injection h with h
    simpa using congrArg Array.toList h
  rcases hP with ⟨wa, wb, hf, hg7, hbw⟩ | ⟨wa, wb, hf, hr, hb⟩
  · obtain ⟨w1, w2, -, ⟨n', NA', nc', XA', xc', e', -, -, -, hnf⟩, hb⟩ := (hFc _ _ hf).was
    obtain ⟨hg7, hab⟩ := hGa _ _ _ hg7
    have e2 : g = wa.heap.size := by
      rw [e] at hg7; injection hg7 with h; injection h with h; injection h with h
    have hb2 : Below w2.heap.size w2 w := below_then (below_then hb hab) hbw
    rw [en] at e'
    obtain ⟨rfl, rfl, rfl, rfl, rfl⟩ := NetAt.uniq (arr e') hn (hnf.grow hb2).at
    exact NetN.high hnf (by rw [e2]; exact hb.size) hb2
  · obtain ⟨g', e2, hg', -⟩ := hFa _ _ hf
    have e3 : g = g' := by
      rw [e] at e2; injection e2 with h; injection h with h; injection h with h
    obtain ⟨n', NA', nc', XA', xc', e', -, -, -, hnf⟩ := hGc _ _ _ hr
    rw [en] at e'
    obtain ⟨rfl, rfl, rfl, rfl, rfl⟩ := NetAt.uniq (arr e') hn (hnf.grow hb).at
    exact (NetN.low hnf (by rw [e3]; exact hg'.1)).keep hb
/-- Two new blocks are two. -/
theorem new_two {B w : World} {F : Nat → Value → World → Prop} {G : Nat → Value → World → World → Prop} {ia ib : Nat} {vs : Nat → Value} {g h : Nat}
    (hFa : ∀ v w, F ia v w → NewN B v w) (hFb : ∀ v w, F ib v w → NewN B v w) (hGa : ∀ v a b, G ia v a b → v = .pointer (some ⟨a.heap.size, 0, none⟩)) (hGb : ∀ v a b, G ib v a b → v = .pointer (some ⟨a.heap.size, 0, none⟩))
    (e : vs ia = .pointer (some ⟨g, 0, none⟩)) (e' : vs ib = .pointer (some ⟨h, 0, none⟩)) (hP : Prior4 F G (fun a b => Below a.heap.size a b) ia ib (vs ia) (vs ib) w ∨ Prior4 F G (fun a b => Below a.heap.size a b) ib ia (vs ib) (vs ia) w) : g ≠ h := by
  rcases hP with ⟨wa, wb, hf, hg7, -⟩ | ⟨wa, wb, hf, hg7, -⟩
  · obtain ⟨g', e2, hg', -⟩ := hFa _ _ hf
    have e3 := hGb _ _ _ hg7
    rw [e] at e2; injection e2 with e2; injection e2 with e2; injection e2 with e2
    rw [e'] at e3; injection e3 with e3; injection e3 with e3; injection e3 with e3
    have := hg'.1
    omega
  · obtain ⟨g', e2, hg', -⟩ := hFb _ _ hf
    have e3 := hGa _ _ _ hg7
    rw [e'] at e2; injection e2 with e2; injection e2 with e2; injection e2 with e2
    rw [e] at e3; injection e3 with e3; injection e3 with e3; injection e3 with e3
    have := hg'.1
    omega
/-- The region n, m := r.Net(), other.Net(). -/
def nmF (B : World) (r s : Value) : Nat → Value → World → Prop
  | 0, v, _ => v = r
  | 1, v, w => CallF B RN v w
  | 2, v, _ => v = s
  | 3, v, w => CallF B RN v w
  | 4, v, w => NewN B v w
  | 5, v, w => NewN B v w
  | _, _, _ => True
def nmG : Nat → Value → World → World → Prop
  | 1, v, a, b => RN a v b
  | 3, v, a, b => RN a v b
  | 4, v, a, _ => v = .pointer (some ⟨a.heap.size, 0, none⟩)
  | 5, v, a, _ => v = .pointer (some ⟨a.heap.size, 0, none⟩)
  | _, _, _, _ => True
theorem nmF_keep {B : World} {r s : Value} {a b : World} (h : Below a.heap.size a b) : ∀ i v, nmF B r s i v a → nmF B r s i v b
  | 0, _, e => e | 2, _, e => e
  | 1, _, hc => CallF.keep hc h | 3, _, hc => CallF.keep hc h
  | 4, _, hn => NewN.keep hn h | 5, _, hn => NewN.keep hn h
  | _ + 6, _, _ => trivial
/-- The format of another network. -/
def NetD.withD (m n : NetD) : NetD := { m with d0 := n.d0, d1 := n.d1, d2 := n.d2, d3 := n.d3 }
theorem withD_ok {m n : NetD} (hm : m.ok = true) (hn : n.ok = true) : (m.withD n).ok = true := by
  obtain ⟨p1, -⟩ := netB_parts hn
  unfold NetD.ok netB netHeadB at hm ⊢
  simp only [Bool.and_eq_true] at hm ⊢
  obtain ⟨⟨-, h2⟩, h3⟩ := hm
  exact ⟨⟨p1, h2⟩, h3⟩
theorem withD_same (m n : NetD) : (m.withD n).same n = true := by unfold NetD.same; exact decide_eq_true ⟨rfl, rfl, rfl, rfl⟩
theorem withD_at {w : World} {m n : NetD} {NA XA : Option Addr} (h : NetAt w m NA XA) : NetAt w (m.withD n) NA XA := ⟨h.nodes, h.next, h.n1, h.n2, h.n3, h.st⟩
/-- What two nets' places hold behind both stores. -/
theorem nets_end {w W1 W2 : World} {b c g h : Nat} {n m : NetD} {NA XA NB XB : Option Addr} (hn : NetF b w n NA XA) (hm : NetF c w m NB XB) (n1 : NetN g w n NA XA) (n2 : NetN h w n NA XA) (m1 : NetN g w m NB XB) (m2 : NetN h w m NB XB) (p1 : w.grownBy W1 (some g)) (p2 : W1.grownBy W2 (some h)) : NetAt W2 n NA XA ∧ NetAt W2 m NB XB :=
  ⟨((hn.awayN n1 p1).awayN (n2.away n1 p1) p2).at, ((hm.awayN m1 p1).awayN (m2.away m1 p1) p2).at⟩
end Go.Proofs.Ytgabfdappeakiaa
