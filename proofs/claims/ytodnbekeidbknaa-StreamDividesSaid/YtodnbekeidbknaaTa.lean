/- The walks of slices.Clone (numbers, terms) and cloneNet of package stream. -/
import Derived.Test.YtodnbekeidbknaaT8
import Derived.Test.YtodnbekeidbknaaU2
import Derived.Lib.SliceRun
set_option linter.unusedVariables false
set_option linter.unusedSimpArgs false
namespace Go.Proofs.Ytodnbekeidbknaa
open Go.RowKit

theorem ints_none {w : World} {l : List Int} (h : Ints w none l) : l = [] := by
  cases l with
  | nil => rfl
  | cons x t => obtain ⟨ad, _, e, _⟩ := h.at_ (k := 0) (by simp); cases e
theorem terms_none {w : World} {l : List (Int × Int)} (h : TermsAt w none l) : l = [] := by
  cases l with
  | nil => rfl
  | cons x t => obtain ⟨ad, e, _⟩ := h 0 x (by simp); cases e
/-- Numbers that lie in blocks from b on. -/
def IntsF (b : Nat) (w : World) (A : Option Addr) (l : List Int) : Prop := Ints w A l ∧ (l ≠ [] → ∀ a, A = some a → b ≤ a.block)
theorem IntsF.nil {b : Nat} {w : World} {A : Option Addr} : IntsF b w A [] := ⟨Ints.nil, fun h => absurd rfl h⟩
theorem IntsF.base {b b' : Nat} {w : World} {A : Option Addr} {l : List Int} (h : IntsF b w A l) (hb : b' ≤ b) : IntsF b' w A l := ⟨h.1, fun hl a ha => Nat.le_trans hb (h.2 hl a ha)⟩
theorem IntsF.grow {b : Nat} {w w' : World} {A : Option Addr} {l : List Int} (h : IntsF b w A l) (hb : Below w.heap.size w w') : IntsF b w' A l := ⟨h.1.grow hb, h.2⟩
theorem IntsF.away {b q : Nat} {w w' : World} {A : Option Addr} {l : List Int} (h : IntsF b w A l) (hg : w.grownBy w' (some q)) (hq : q < b) : IntsF b w' A l := by
  refine ⟨⟨fun k v hk => ?_, h.1.2⟩, h.2⟩
  obtain ⟨ad, e, hb, hc⟩ := h.1.1 k v hk
  have hl : l ≠ [] := by rintro rfl; simp at hk
  have := h.2 hl ad e
  exact ⟨ad, e, Nat.lt_of_lt_of_le hb hg.size, hg.cell hc (by rw [block_add]; intro e'; injection e' with e'; omega)⟩
theorem IntsF.own {b n c : Nat} {w : World} {A : Option Addr} {l : List Int} (h : Own b w (.slice A n c) l) : IntsF b w A l := ⟨h.ints, fun _ a ha => by subst ha; exact (h.1.lt a.block rfl).1⟩
/-- Nodes that lie in blocks from b on. -/
def NodesF (b : Nat) (w : World) (A : Option Addr) (ns : List (List (Int × Int))) : Prop :=
  ∀ (k : Nat) ts, ns[k]? = some ts → ∃ ad B c, A = some ad ∧ b ≤ ad.block ∧ ad.block < w.heap.size ∧ w.cell? (ad.add k) = some (.slice B ts.length c) ∧ TermsAt w B ts ∧ (ts ≠ [] → ∀ a, B = some a → b ≤ a.block)
theorem NodesF.at {b : Nat} {w : World} {A : Option Addr} {ns : List (List (Int × Int))} (h : NodesF b w A ns) : NodesAt w A ns := fun k ts hk => by
  obtain ⟨ad, B, c, e, _, h1, h2, h3, _⟩ := h k ts hk
  exact ⟨ad, B, c, e, h1, h2, h3⟩
theorem NodesF.nil {b : Nat} {w : World} {A : Option Addr} : NodesF b w A [] := fun k t h => by simp at h
theorem NodesF.base {b b' : Nat} {w : World} {A : Option Addr} {ns : List (List (Int × Int))} (h : NodesF b w A ns) (hb : b' ≤ b) : NodesF b' w A ns := fun k ts hk => by
  obtain ⟨ad, B, c, e, h0, h1, h2, h3, h4⟩ := h k ts hk
  exact ⟨ad, B, c, e, by omega, h1, h2, h3, fun hl a ha => Nat.le_trans hb (h4 hl a ha)⟩
theorem NodesF.grow {b : Nat} {w w' : World} {A : Option Addr} {ns : List (List (Int × Int))} (h : NodesF b w A ns) (hb : Below w.heap.size w w') : NodesF b w' A ns := fun k ts hk => by
  obtain ⟨ad, B, c, e, h0, h1, h2, h3, h4⟩ := h k ts hk
  exact ⟨ad, B, c, e, h0, Nat.lt_of_lt_of_le h1 hb.size, (hb.cell (by rw [block_add]; exact h1)).trans h2, h3.grow hb, h4⟩
theorem NodesF.away {b q : Nat} {w w' : World} {A : Option Addr} {ns : List (List (Int × Int))} (h : NodesF b w A ns) (hg : w.grownBy w' (some q)) (hq : q < b) : NodesF b w' A ns := fun k ts hk => by
  obtain ⟨ad, B, c, e, h0, h1, h2, h3, h4⟩ := h k ts hk
  exact ⟨ad, B, c, e, h0, Nat.lt_of_lt_of_le h1 hg.size, hg.cell h2 (by rw [block_add]; intro e'; injection e' with e'; omega), h3.kept hg (fun hl a ha e' => by injection e' with e'; have := h4 hl a ha; omega), h4⟩
/-- What lies behind a network's slices, in blocks from b on. -/
structure NetF (b : Nat) (w : World) (n : NetD) (NA XA : Option Addr) : Prop where
  nodes : NodesF b w NA n.ns
  next : IntsF b w XA n.nx
  n1 : n.ns.length ≤ 9223372036854775807
  n2 : n.nx.length ≤ 9223372036854775807
  n3 : ∀ ts ∈ n.ns, ts.length ≤ 9223372036854775807
  st : I64 n.st
theorem NetF.at {b : Nat} {w : World} {n : NetD} {NA XA : Option Addr} (h : NetF b w n NA XA) : NetAt w n NA XA := ⟨h.nodes.at, h.next.1, h.n1, h.n2, h.n3, h.st⟩
theorem NetF.base {b b' : Nat} {w : World} {n : NetD} {NA XA : Option Addr} (h : NetF b w n NA XA) (hb : b' ≤ b) : NetF b' w n NA XA := ⟨h.nodes.base hb, h.next.base hb, h.n1, h.n2, h.n3, h.st⟩
theorem NetF.grow {b : Nat} {w w' : World} {n : NetD} {NA XA : Option Addr} (h : NetF b w n NA XA) (hb : Below w.heap.size w w') : NetF b w' n NA XA := ⟨h.nodes.grow hb, h.next.grow hb, h.n1, h.n2, h.n3, h.st⟩
theorem NetF.away {b q : Nat} {w w' : World} {n : NetD} {NA XA : Option Addr} (h : NetF b w n NA XA) (hg : w.grownBy w' (some q)) (hq : q < b) : NetF b w' n NA XA := ⟨h.nodes.away hg hq, h.next.away hg hq, h.n1, h.n2, h.n3, h.st⟩
theorem NetF.zero {b : Nat} {w : World} {NA XA : Option Addr} : NetF b w NetD.zero NA XA := ⟨NodesF.nil, IntsF.nil, by decide, by decide, by simp [NetD.zero], by decide, by decide⟩
theorem NetF.of {w : World} {n : NetD} {NA XA : Option Addr} (h : NetAt w n NA XA) : NetF 0 w n NA XA :=
  ⟨fun k ts hk => by obtain ⟨ad, B, c, e, h1, h2, h3⟩ := h.nodes k ts hk; exact ⟨ad, B, c, e, Nat.zero_le _, h1, h2, h3, fun _ _ _ => Nat.zero_le _⟩, ⟨h.next, fun _ _ _ => Nat.zero_le _⟩, h.n1, h.n2, h.n3, h.st⟩
theorem sl_CloneI (A : Option Addr) (n c : Nat) (l : List Int) (w : World) (h : Ints w A l) (hn : l.length = n) (h9 : n ≤ 1000000) : Calls Try.prog 30 #[.slice A n c] w (RetInts1 w l) := by
  have q22 : ∀ (w : World) (a : Option Addr) (n c n' c' : Nat), (binOp .eql 23 (.slice a n c) (.slice none n' c')).run Try.prog w = .ok (.bool a.isNone) w := fun w a n c n' c' => Lib.run_eql_slice_nil w _ _ a n c n' c' Try.underlying23
  cases A with
  | none =>
    have hl := ints_none h
    subst hl
    go_enter Try.func30, Try.ntmps30
    go_wp2_with fail
    go_ret
    exact ⟨_, rfl, Own.nil, Below.refl _ _⟩
  | some ad =>
    have he : Own w.heap.size (w.alloc (.cells #[] 3)) (.slice (some ⟨w.heap.size, 0, none⟩) 0 0) [] := emp1
    have hb := (Below.refl w.heap.size w).alloc (Nat.le_refl _) (.cells #[] 3)
    have hi := h.grow hb
    have hs : w.heap.size ≤ (w.alloc (.cells #[] 3)).heap.size := hb.size
    have HB := Lib.hid hb
    clear hb h
    go_enter Try.func30, Try.ntmps30
    go_wp2_with (at_builtin; refine app_intsN _ rfl _ _ rfl w.heap.size (m := l) rfl rfl hn he hi (by simp; omega) hs ?_; intro v1 w1 ho1 hb1)
    go_ret
    exact ⟨_, rfl, ho1, HB.out.trans hb1⟩
def RetTerms1 (w : World) (l : List (Int × Int)) (e : Ending) (w' : World) : Prop := ∃ v, e = .returned v ∧ OwnTm w.heap.size w' v l ∧ Below w.heap.size w w'
theorem sl_CloneT (A : Option Addr) (n c : Nat) (l : List (Int × Int)) (w : World) (h : TermsAt w A l) (hn : l.length = n) (h9 : n ≤ 1000000) : Calls Try.prog 31 #[.slice A n c] w (RetTerms1 w l) := by
  have q22 : ∀ (w : World) (a : Option Addr) (n c n' c' : Nat), (binOp .eql 51 (.slice a n c) (.slice none n' c')).run Try.prog w = .ok (.bool a.isNone) w := fun w a n c n' c' => Lib.run_eql_slice_nil w _ _ a n c n' c' Try.underlying51
  cases A with
  | none =>
    have hl := terms_none h
    subst hl
    go_enter Try.func31, Try.ntmps31
    go_wp2_with fail
    go_ret
    exact ⟨_, rfl, OwnTm.nil, Below.refl _ _⟩
  | some ad =>
    have he : OwnTm w.heap.size (w.alloc (.cells #[] 57)) (.slice (some ⟨w.heap.size, 0, none⟩) 0 0) [] := ⟨World.ownsRow_made w #[] 0 (Nat.le_refl _) (Nat.zero_le _) (by simp), by simp⟩
    have hb := (Below.refl w.heap.size w).alloc (Nat.le_refl _) (.cells #[] 57)
    have hi := h.grow hb
    have hs : w.heap.size ≤ (w.alloc (.cells #[] 57)).heap.size := hb.size
    have HB := Lib.hid hb
    have HE := Lib.hid (fun (k : Nat) (hk : (Value.slice (some ⟨w.heap.size, 0, none⟩) 0 0).ownBlock = some k) => (he.1.lt k hk).1)
    clear hb h
    go_enter Try.func31, Try.ntmps31
    go_wp2_with (at_builtin; refine app_terms _ rfl _ _ rfl w.heap.size rfl rfl he hi hn (by simp; omega) hs ?_; intro v1 w1 ho1 hb1 _)
    go_ret
    exact ⟨_, rfl, ho1, HB.out.trans (own_below (Below.refl _ _) hs HE.out hb1)⟩
/-- The block is of none of these types. -/
def OthX (ex : List TypeId) (w : World) (a : Nat) : Prop := ∃ cur t, w.heap[a]? = some (.cells cur t (0, 0)) ∧ t ∉ ex
/-- The block holds no stream and no row of integers. -/
abbrev Oth (w : World) (a : Nat) : Prop := OthX [38, 3] w a
theorem OthX.lt {ex : List TypeId} {w : World} {a : Nat} (h : OthX ex w a) : a < w.heap.size := by
  obtain ⟨cur, t, h, _⟩ := h
  exact (Array.getElem?_eq_some_iff.1 h).1
theorem OthX.keep {ex : List TypeId} {w w' : World} {a : Nat} (h : OthX ex w a) (hb : Below w.heap.size w w') : OthX ex w' a := by
  have hl := h.lt
  obtain ⟨cur, t, h, ht⟩ := h
  exact ⟨cur, t, (hb.block a hl).trans h, ht⟩
theorem OthX.away {ex : List TypeId} {w w' : World} {a q : Nat} (h : OthX ex w a) (hg : w.grownBy w' (some q)) (hq : a ≠ q) : OthX ex w' a := by
  have hl := h.lt
  obtain ⟨cur, t, h, ht⟩ := h
  exact ⟨cur, t, (hg.block a hl (by intro e; injection e with e; exact hq e)).trans h, ht⟩
theorem OthX.own {ex : List TypeId} {w : World} {base g n c m size : Nat} {e : TypeId} {xs : List Value} (h : w.ownsRow base e size (.slice (some ⟨g, 0, none⟩) n c) m xs) (he : e ∉ ex) : OthX ex w g := by
  obtain ⟨_, ⟨e', _⟩ | ⟨g', cap, cur, e', _, hg, _⟩⟩ := h
  · cases e'
  · injection e' with e1
    injection e1 with e1
    injection e1 with e1
    subst e1
    exact ⟨cur, e, hg, he⟩
/-- The first k nodes have been laid into the row of block g. -/
def MidNd (w : World) (g nn : Nat) (ns : List (List (Int × Int))) (k : Nat) : Prop :=
  ∃ cs : List Value, w.ownsRow g 53 1 (.slice (some ⟨g, 0, none⟩) nn nn) nn cs ∧ ∀ (j : Nat) l, j < k → ns[j]? = some l → ∃ C c, cs[j]? = some (.slice C l.length c) ∧ TermsAt w C l ∧ (l ≠ [] → ∀ a, C = some a → g < a.block ∧ Oth w a.block)
theorem MidNd.grow {w w' : World} {g nn k : Nat} {ns : List (List (Int × Int))} (h : MidNd w g nn ns k) (hb : Below w.heap.size w w') : MidNd w' g nn ns k := by
  obtain ⟨cs, h1, h2⟩ := h
  refine ⟨cs, own_grow h1 hb, fun j s hj hk => ?_⟩
  obtain ⟨C, c, c0, hi, hn⟩ := h2 j s hj hk
  exact ⟨C, c, c0, hi.grow hb, fun hl a ha => ⟨(hn hl a ha).1, (hn hl a ha).2.keep hb⟩⟩
theorem MidNd.other {w : World} {g nn k q : Nat} {o : Nat} {u : Value} {ns : List (List (Int × Int))} (h : MidNd w g nn ns k) (hq : q < g) : MidNd (w.setCell ⟨q, o, none⟩ u) g nn ns k := by
  obtain ⟨cs, h1, h2⟩ := h
  refine ⟨cs, own_store h1 hq, fun j s hj hk => ?_⟩
  obtain ⟨C, c, c0, hi, hn⟩ := h2 j s hj hk
  exact ⟨C, c, c0, hi.kept (grown_set (grown_refl w (some q))) (fun hl a ha e => by injection e with e; have := (hn hl a ha).1; omega), fun hl a ha => ⟨(hn hl a ha).1, (hn hl a ha).2.away (grown_set (grown_refl w (some q))) (by have := (hn hl a ha).1; omega)⟩⟩
theorem MidNd.away {w w' : World} {g nn k q : Nat} {ns : List (List (Int × Int))} (h : MidNd w g nn ns k) (hg : w.grownBy w' (some q)) (hq : q < g) : MidNd w' g nn ns k := by
  obtain ⟨cs, h1, h2⟩ := h
  refine ⟨cs, h1.kept hg (.inr (fun e => by have := (h1.lt _ e).1; omega)), fun j s hj hk => ?_⟩
  obtain ⟨C, c, c0, hi, hn⟩ := h2 j s hj hk
  exact ⟨C, c, c0, hi.kept hg (fun hl a ha e => by injection e with e; have := (hn hl a ha).1; omega), fun hl a ha => ⟨(hn hl a ha).1, (hn hl a ha).2.away hg (by have := (hn hl a ha).1; omega)⟩⟩
theorem own_oth {base n c : Nat} {w : World} {a : Addr} {l : List Int} (h : Own base w (.slice (some a) n c) l) : OthX [38] w a.block := by
  obtain ⟨_, ⟨e1, _⟩ | ⟨g', cap, cur, e1, _, hg, _⟩⟩ := h.1
  · cases e1
  · injection e1 with e1
    injection e1 with e1
    subst e1
    exact ⟨cur, _, hg, by decide⟩
theorem own_away {base q : Nat} {w w' : World} {v : Value} {l : List Int} (h : Own base w v l) (hg : w.grownBy w' (some q)) (hq : q < base) : Own base w' v l := ⟨h.1.kept hg (.inr (fun e => by have := (h.1.lt _ e).1; omega)), h.2⟩
theorem MidNd.set {w : World} {g nn k : Nat} {ns : List (List (Int × Int))} (h : MidNd w g nn ns k) (hk : k < nn) {l : List (Int × Int)} (hl : ns[k]? = some l) {C : Option Addr} {c : Nat} (hT : TermsAt w C l) (hC : l ≠ [] → ∀ a, C = some a → g < a.block ∧ Oth w a.block) :
    MidNd (w.setCell ⟨g, k, none⟩ (.slice C l.length c)) g nn ns (k + 1) := by
  obtain ⟨cs, h1, h2⟩ := h
  have hlen : cs.length = nn * 1 := h1.1
  refine ⟨cs.set k (.slice C l.length c), (h1.stored k _).1, fun j s hj hs => ?_⟩
  have hg := grown_set (k := k) (u := .slice C l.length c) (grown_refl w (some g))
  rcases Nat.lt_or_ge j k with hjk | hjk
  · obtain ⟨C', c', c0, hi, hn⟩ := h2 j s hjk hs
    exact ⟨C', c', by rw [List.getElem?_set_ne (by omega)]; exact c0, hi.kept hg (fun hl a ha e => by injection e with e; have := (hn hl a ha).1; omega), fun hl a ha => ⟨(hn hl a ha).1, (hn hl a ha).2.away hg (by have := (hn hl a ha).1; omega)⟩⟩
  · obtain rfl : j = k := by omega
    rw [hl] at hs
    injection hs with hs
    subst hs
    exact ⟨C, c, by rw [List.getElem?_set_self (by omega)], hT.kept hg (fun hl a ha e => by injection e with e; have := (hC hl a ha).1; omega), fun hl a ha => ⟨(hC hl a ha).1, (hC hl a ha).2.away hg (by have := (hC hl a ha).1; omega)⟩⟩
theorem MidNd.nodesF {w : World} {g nn : Nat} {ns : List (List (Int × Int))} (h : MidNd w g nn ns nn) (hl : ns.length = nn) : NodesF g w (some ⟨g, 0, none⟩) ns := fun k l hk => by
  obtain ⟨cs, h1, h2⟩ := h
  obtain ⟨C, c, c0, hi, hc⟩ := h2 k l (by have := (List.getElem?_eq_some_iff.1 hk).1; omega) hk
  obtain ⟨g', e0, hg, d0⟩ := own_cells h1 c0
  injection e0 with e0
  injection e0 with e0
  subst e0
  exact ⟨_, C, c, rfl, Nat.le_refl _, hg, by rw [add_cellsB]; exact d0, hi, fun hl a ha => Nat.le_of_lt (hc hl a ha).1⟩
/-- The nodes' blocks hold no stream. -/
def NodesT (w : World) (A : Option Addr) (ns : List (List (Int × Int))) : Prop :=
  ∀ (k : Nat) ts, ns[k]? = some ts → ∃ ad B c, A = some ad ∧ Oth w ad.block ∧ w.cell? (ad.add k) = some (.slice B ts.length c) ∧ (ts ≠ [] → ∀ a, B = some a → Oth w a.block)
theorem MidNd.nodesT {w : World} {g nn : Nat} {ns : List (List (Int × Int))} (h : MidNd w g nn ns nn) (hl : ns.length = nn) (he : 53 ∉ [38, 3]) : NodesT w (some ⟨g, 0, none⟩) ns := fun k l hk => by
  obtain ⟨cs, h1, h2⟩ := h
  obtain ⟨C, c, c0, hi, hc⟩ := h2 k l (by have := (List.getElem?_eq_some_iff.1 hk).1; omega) hk
  obtain ⟨g', e0, hg, d0⟩ := own_cells h1 c0
  injection e0 with e0
  injection e0 with e0
  subst e0
  exact ⟨_, C, c, rfl, OthX.own h1 he, by rw [add_cellsB]; exact d0, fun hl a ha => (hc hl a ha).2⟩
/-- A network's blocks hold no stream. -/
def NetT (w : World) (n : NetD) (NA XA : Option Addr) : Prop := NodesT w NA n.ns ∧ (n.nx ≠ [] → ∀ a, XA = some a → OthX [38] w a.block)
theorem NetT.keep {w w' : World} {n : NetD} {NA XA : Option Addr} (h : NetT w n NA XA) (hb : Below w.heap.size w w') : NetT w' n NA XA := by
  refine ⟨fun k ts hk => ?_, fun hl a ha => (h.2 hl a ha).keep hb⟩
  obtain ⟨ad, B, c, e, h1, h2, h3⟩ := h.1 k ts hk
  exact ⟨ad, B, c, e, h1.keep hb, (hb.cell (by rw [block_add]; exact h1.lt)).trans h2, fun hl a ha => (h3 hl a ha).keep hb⟩
theorem OthX.ne {ex : List TypeId} {w : World} {a q : Nat} {cur : Array Value} {T : TypeId} (h : OthX ex w a) (hq : w.heap[q]? = some (.cells cur T (0, 0))) (hT : T ∈ ex) : a ≠ q := fun e => by
  subst e
  obtain ⟨c, t, h1, h2⟩ := h
  rw [hq] at h1
  injection h1 with h1
  injection h1 with _ h1
  subst h1
  exact h2 hT
/-- A network stays when a stream's block, or another row of integers, is written. -/
theorem NetF.awayQ {b q : Nat} {w w' : World} {n : NetD} {NA XA : Option Addr} {cur : Array Value} {T : TypeId} (h : NetF b w n NA XA) (ht : NetT w n NA XA) (hq : w.heap[q]? = some (.cells cur T (0, 0))) (hT : T ∈ [38, 3]) (hx : n.nx ≠ [] → ∀ a, XA = some a → a.block ≠ q) (hg : w.grownBy w' (some q)) : NetF b w' n NA XA ∧ NetT w' n NA XA := by
  refine ⟨⟨fun k ts hk => ?_, ⟨?_, h.next.2⟩, h.n1, h.n2, h.n3, h.st⟩, fun k ts hk => ?_, fun hl a ha => (ht.2 hl a ha).away hg (hx hl a ha)⟩
  · obtain ⟨ad, B, c, e, h0, h1, h2, h3, h4⟩ := h.nodes k ts hk
    obtain ⟨ad', B', c', e', k1, k2, k3⟩ := ht.1 k ts hk
    rw [e] at e'
    injection e' with e'
    subst e'
    rw [h2] at k2
    injection k2 with k2
    injection k2 with k2 _ _
    subst k2
    exact ⟨ad, B, c, e, h0, Nat.lt_of_lt_of_le h1 hg.size, hg.cell h2 (by rw [block_add]; intro e'; injection e' with e'; exact k1.ne hq hT e'), h3.kept hg (fun hl a ha e' => by injection e' with e'; exact (k3 hl a ha).ne hq hT e'), h4⟩
  · refine ⟨fun k v hk => ?_, h.next.1.2⟩
    obtain ⟨ad, e, hb, hc⟩ := h.next.1.1 k v hk
    have hl : n.nx ≠ [] := by intro h; rw [h] at hk; simp at hk
    exact ⟨ad, e, Nat.lt_of_lt_of_le hb hg.size, hg.cell hc (by rw [block_add]; intro e'; injection e' with e'; exact hx hl ad e e')⟩
  · obtain ⟨ad, B, c, e, h1, h2, h3⟩ := ht.1 k ts hk
    exact ⟨ad, B, c, e, h1.away hg (h1.ne hq hT), hg.cell h2 (by rw [block_add]; intro e'; injection e' with e'; exact h1.ne hq hT e'), fun hl a ha => (h3 hl a ha).away hg ((h3 hl a ha).ne hq hT)⟩
theorem NetF.awayT {b q : Nat} {w w' : World} {n : NetD} {NA XA : Option Addr} {cur : Array Value} (h : NetF b w n NA XA) (ht : NetT w n NA XA) (hq : w.heap[q]? = some (.cells cur 38 (0, 0))) (hg : w.grownBy w' (some q)) : NetF b w' n NA XA ∧ NetT w' n NA XA :=
  h.awayQ ht hq (.head _) (fun hl a ha => (ht.2 hl a ha).ne hq (.head _)) hg
theorem MidNd.nodes {w : World} {g nn : Nat} {ns : List (List (Int × Int))} (h : MidNd w g nn ns nn) (hl : ns.length = nn) : NodesAt w (some ⟨g, 0, none⟩) ns := fun k l hk => by
  obtain ⟨cs, h1, h2⟩ := h
  obtain ⟨C, c, c0, hi, _⟩ := h2 k l (by have := (List.getElem?_eq_some_iff.1 hk).1; omega) hk
  obtain ⟨g', e0, hg, d0⟩ := own_cells h1 c0
  exact ⟨_, C, c, e0, hg, by rw [add_cellsB]; exact d0, hi⟩
theorem MidNd.free {w : World} {g nn k : Nat} {ns : List (List (Int × Int))} (h : MidNd w g nn ns k) (j : Nat) : w.frozen? ⟨g, j, none⟩ = false := by
  obtain ⟨cs, h1, _⟩ := h
  exact h1.frozenAt j
theorem MidNd.cell {w : World} {g nn k : Nat} {ns : List (List (Int × Int))} (h : MidNd w g nn ns k) {j : Nat} (hj : j < nn) : ∃ v, w.cell? ⟨g, j, none⟩ = some v := by
  obtain ⟨cs, h1, _⟩ := h
  have hlen : cs.length = nn * 1 := h1.1
  exact ⟨cs[j]'(by omega), by rw [h1.cellAt j (by omega), List.getElem?_eq_getElem (by omega)]⟩
theorem MidNd.block {w : World} {g nn k : Nat} {ns : List (List (Int × Int))} (h : MidNd w g nn ns k) : g < w.heap.size := by
  obtain ⟨cs, h1, _⟩ := h
  exact (h1.lt g rfl).2
/-- make([]Node, n). -/
theorem mk_nodes {ops : Array Oper} {rest : List Oper} {o : Oper} {a : Act} {Q : Exit → Act → World → Prop} {w : World} (hg : o.guard = none) (s c : Operand) (hop : o.op = Op.makeSlice 29 s c)
    (n : Nat) (ns : List (List (Int × Int))) {N : Int} (hs : a.eval s = .int .i64 N) (hc : a.eval c = .int .i64 N) (hN : N = (n : Int)) (hn : n ≤ 1000000)
    (h : ∀ w', MidNd w' w.heap.size n ns 0 → Below w.heap.size w w' → wpList Try.prog ops Q rest (a.put o.dst (.slice (some ⟨w.heap.size, 0, none⟩) n n)) w') :
    wpList Try.prog ops Q (o :: rest) a w := by
  subst hN
  obtain ⟨i0, hi, hz0, hz1, hz2⟩ := info_parts info_node
  refine wpList_make_full w hg s c 29 hop w.heap.size 53 i0 _ 1 Try.underlying29 hi hz0 hz1 .i64 .i64 n n n hs hc rfl rfl (by rw [hz2]; omega) (by unfold maxLen; omega) (Nat.le_refl _) fun w' h1 h2 => h w' ⟨_, h1, fun j l hj => by omega⟩ ?_
  exact (Below.refl _ _).grown h2 (Nat.le_refl _) (by intro k hk; cases hk)
/-- A call hands back a network that reads so, in memory of its own. -/
def RetNet (w : World) (n : NetD) (e : Ending) (w' : World) : Prop := ∃ NA nc XA xc, e = .returned (n.val NA nc XA xc) ∧ NetF w.heap.size w' n NA XA ∧ NetT w' n NA XA ∧ Below w.heap.size w w'
def zeros12T : List Value := [.int .i64 0, .int .i64 0, .int .i64 0, .int .i64 0, .int .i64 0, .int .i64 0, .int .i64 0, .int .i64 0, .int .i64 0, .slice none 0 0, .slice none 0 0, .int .i64 0]
theorem two_boxes (w : World) (a b : Array Value) (s t : TypeId) : Box ((w.alloc (.cells a s)).alloc (.cells b t)) w.heap.size a.toList ∧ Box ((w.alloc (.cells a s)).alloc (.cells b t)) (w.heap.size + 1) b.toList :=
  ⟨(Box.new rfl).alloc _, Box.new (by simp)⟩
set_option maxRecDepth 100000 in
set_option maxHeartbeats 4000000 in
theorem st_cloneNet (n : NetD) (NA XA : Option Addr) (nc xc : Nat) (w : World) (hn : NetAt w n NA XA) (hok : n.ok = true) : Calls Try.prog 23 #[n.val NA nc XA xc] w (RetNet w n) := by
  obtain ⟨p1, p2, p3, p4, p5, p6, -, -⟩ := netB_parts hok
  obtain ⟨xn, hxn⟩ : ∃ k, n.nx.length = k := ⟨_, rfl⟩
  obtain ⟨nn, hnn⟩ : ∃ k, n.ns.length = k := ⟨_, rfl⟩
  have hx64 : xn ≤ 64 := by omega
  have hn64 : nn ≤ 64 := by omega
  have HXN := Lib.hid hxn
  have HNN := Lib.hid hnn
  have HN := Lib.hid hn
  have HT := Lib.hid p6
  obtain ⟨tb1, tb2⟩ := two_boxes w #[.int .i64 n.d0, .int .i64 n.d1, .int .i64 n.d2, .int .i64 n.d3, .int .i64 n.c0, .int .i64 n.c1, .int .i64 n.c2, .int .i64 n.c3, .int .i64 n.st, .slice NA nn nc, .slice XA xn xc, .int .i64 n.out] zeros12T.toArray 31 31
  have hb0 : Below w.heap.size w ((w.alloc (.cells #[.int .i64 n.d0, .int .i64 n.d1, .int .i64 n.d2, .int .i64 n.d3, .int .i64 n.c0, .int .i64 n.c1, .int .i64 n.c2, .int .i64 n.c3, .int .i64 n.st, .slice NA nn nc, .slice XA xn xc, .int .i64 n.out] 31)).alloc (.cells zeros12T.toArray 31)) := ((Below.refl w.heap.size w).alloc (Nat.le_refl _) _).alloc (by simp) _
  have hs0 : w.heap.size + 2 ≤ ((w.alloc (.cells #[.int .i64 n.d0, .int .i64 n.d1, .int .i64 n.d2, .int .i64 n.d3, .int .i64 n.c0, .int .i64 n.c1, .int .i64 n.c2, .int .i64 n.c3, .int .i64 n.st, .slice NA nn nc, .slice XA xn xc, .int .i64 n.out] 31)).alloc (.cells zeros12T.toArray 31)).heap.size := by simp
  unfold NetD.val netV
  rw [hnn, hxn]
  have TB1 := Lib.hid tb1
  have TB2 := Lib.hid tb2
  have HB0 := Lib.hid hb0
  have HS0 := Lib.hid hs0
  clear p1 p2 p3 p4 p5 p6 hok hn hxn hnn tb1 tb2 hb0 hs0
  go_enter Try.func23, Try.ntmps23
  go_upto_region 1 with fail
  have tb1 := TB1.out
  have tb2 := TB2.out
  have hb0 := HB0.out
  have hs0 := HS0.out
  unfold zeros12T at tb2 tb1 hb0 hs0
  generalize ((w.alloc (.cells #[.int .i64 n.d0, .int .i64 n.d1, .int .i64 n.d2, .int .i64 n.d3, .int .i64 n.c0, .int .i64 n.c1, .int .i64 n.c2, .int .i64 n.c3, .int .i64 n.st, .slice NA nn nc, .slice XA xn xc, .int .i64 n.out] 31)).alloc _) = W0 at tb1 tb2 hb0 hs0 ⊢
  clear TB1 TB2 HB0 HS0
  have CI : Hid (∀ w1, Ints w1 XA n.nx → Calls Try.prog 30 #[.slice XA xn xc] w1 fun e w' => ∃ XB xbc, e = .returned (.slice XB xn xbc) ∧ Own w1.heap.size w' (.slice XB xn xbc) n.nx ∧ Below w1.heap.size w1 w') := fun w1 h => by
    refine (sl_CloneI XA xn xc n.nx w1 h HXN.out (by omega)).mono ?_
    rintro e w2 ⟨v, rfl, ho, hb⟩
    obtain ⟨XB, xbc, rfl, -, hi⟩ := ho.form
    rw [HXN.out] at ho ⊢
    exact ⟨XB, xbc, rfl, ho, hb⟩
  have CT : Hid (∀ w1 A c ts, TermsAt w1 A ts → ts.length ≤ 64 → Calls Try.prog 31 #[.slice A ts.length c] w1 fun e w' => ∃ C cc, e = .returned (.slice C ts.length cc) ∧ TermsAt w' C ts ∧ (ts ≠ [] → ∀ a, C = some a → w1.heap.size ≤ a.block ∧ Oth w' a.block) ∧ Below w1.heap.size w1 w') := fun w1 A c ts h hl => by
    refine (sl_CloneT A ts.length c ts w1 h rfl (by omega)).mono ?_
    rintro e w2 ⟨v, rfl, ho, hb⟩
    obtain ⟨C, cc, rfl, -, hi⟩ := ho.form
    refine ⟨C, cc, rfl, hi, fun hne a ha => ?_, hb⟩
    subst ha
    obtain ⟨A, c', e', _⟩ := own_form ho.1
    have e0 := e'
    refine ⟨(ho.1.lt _ rfl).1, ?_⟩
    obtain ⟨_, ⟨e1, _⟩ | ⟨g', cap, cur, e1, _, hg, _⟩⟩ := ho.1
    · cases e1
    · injection e1 with e1
      injection e1 with e1
      subst e1
      exact ⟨cur, _, hg, by decide⟩
  have C1 := Lib.hid tb1
  have C2 := Lib.hid tb2
  have HW0 := Lib.hid hb0
  obtain ⟨⟨z1, z2, z3, z4⟩, ⟨z5, z6, z7, z8⟩, z9, z10, z11, z12⟩ := tb1.c12
  clear tb1 tb2 hb0
  go_upto_region 2 with (first
    | (go_at_call 30; (with_reducible refine (CI.out _ (HN.out.next.grow HW0.out)).mono ?_); rintro e w1 ⟨XB, xbc, rfl, hi1, hb1⟩; have c1 := C1.out.keep hb1; have c2 := C2.out.keep hb1; have hw1 := below_then HW0.out hb1; have hs1 := hb1.size; obtain ⟨⟨z1, z2, z3, z4⟩, ⟨z5, z6, z7, z8⟩, z9, z10, z11, z12⟩ := c1.c12; have hf1 := c1.2.2))
  have c1b := c1.set (k := 10) (u := .slice XB xn xbc)
  have c2b := c2.past (b := w.heap.size) (k := 10) (u := .slice XB xn xbc) (by omega)
  have hs2 : w.heap.size + 2 ≤ (w1.setCell ⟨w.heap.size, 10, none⟩ (.slice XB xn xbc)).heap.size := by simp [World.setCell]; omega
  have hb2 : Below w.heap.size w (w1.setCell ⟨w.heap.size, 10, none⟩ (.slice XB xn xbc)) := hw1.setCell (p := ⟨w.heap.size, 10, none⟩) (Nat.le_refl _) _
  have hi2 : Own (w.heap.size + 2) (w1.setCell ⟨w.heap.size, 10, none⟩ (.slice XB xn xbc)) (.slice XB xn xbc) n.nx := Own.base (base := W0.heap.size) ⟨own_store hi1.1 (by omega), hi1.2⟩ hs0
  generalize (w1.setCell ⟨w.heap.size, 10, none⟩ (.slice XB xn xbc)) = W1 at c1b c2b hs2 hb2 hi2 ⊢
  have C1 := Lib.hid c1b
  have C2 := Lib.hid c2b
  have HB2 := Lib.hid hb2
  have HI2 := Lib.hid hi2
  obtain ⟨⟨z1, z2, z3, z4⟩, ⟨z5, z6, z7, z8⟩, z9, z10, z11, z12⟩ := Box.c12 (show Box W1 w.heap.size [.int .i64 n.d0, .int .i64 n.d1, .int .i64 n.d2, .int .i64 n.d3, .int .i64 n.c0, .int .i64 n.c1, .int .i64 n.c2, .int .i64 n.c3, .int .i64 n.st, .slice NA nn nc, .slice XB xn xbc, .int .i64 n.out] from c1b)
  clear c1 c2 c1b c2b hb2 hi2 hi1 hb1 hw1 hs1 hf1
  have hb3 := fun (w3 : World) (h : Below W1.heap.size W1 w3) => Box.keep (show Box W1 w.heap.size [.int .i64 n.d0, .int .i64 n.d1, .int .i64 n.d2, .int .i64 n.d3, .int .i64 n.c0, .int .i64 n.c1, .int .i64 n.c2, .int .i64 n.c3, .int .i64 n.st, .slice NA nn nc, .slice XB xn xbc, .int .i64 n.out] from C1.out) h
  have HB3 := Lib.hid hb3
  clear hb3
  go_wp2_with (at_make; refine mk_nodes rfl _ _ rfl nn n.ns rfl rfl rfl (by omega) ?_; intro w3 hm3 hb3; have c13 := HB3.out _ hb3; obtain ⟨⟨z1, z2, z3, z4⟩, ⟨z5, z6, z7, z8⟩, z9, z10, z11, z12⟩ := c13.c12)
  have HM3 := Lib.hid hm3
  have HBW3 := Lib.hid hb3
  clear c13 hm3 hb3 z1 z2 z3 z4 z5 z6 z7 z8 z9 z10 z11 z12
  go_loopw [17] (fun i wr => ∃ k : Nat, k ≤ nn ∧ i = .int .i64 k ∧ Hid (MidNd wr W1.heap.size nn n.ns k) ∧ Hid (Below W1.heap.size W1 wr)) (fun i _ => nn - (intOf i).toNat)
  case atStart => exact ⟨0, Nat.zero_le _, rfl, HM3, HBW3⟩
  case round =>
    obtain ⟨k, hk, rfl, HM, HB⟩ := hrel
    have hbw := HB.out.size
    by_cases hlt : k < nn
    · obtain ⟨ts, hts⟩ : ∃ ts, n.ns[k]? = some ts := ⟨_, List.getElem?_eq_getElem (by rw [HNN.out]; exact hlt)⟩
      obtain ⟨ad, B, bc, rfl, hba, cn, hT⟩ := (HN.out.nodes.grow (below_then HB2.out HB.out)) k ts hts
      obtain ⟨hl64, -⟩ := HT.out k ts hts
      have hbal := (Below.refl wr.heap.size wr).alloc (Nat.le_refl _) (.cells #[.slice B ts.length bc] 53)
      have HTA := Lib.hid (hT.grow hbal)
      have HBAL := Lib.hid hbal
      have HMA := Lib.hid (HM.out.grow hbal)
      have HTS := Lib.hid hts
      have y1 : (0 : Int) ≤ (k : Int) := by omega
      have y2 : (k : Int) < (nn : Int) := by omega
      have hgw := HM.out.block
      clear hT hbal hts
      go_wp2_with (first
        | (go_at_call 31; (with_reducible refine (CT.out _ _ _ ts HTA.out hl64).mono ?_); rintro e w5 ⟨C, cc, rfl, hT5, hC5, hb5⟩; have hm5 := HMA.out.grow hb5; obtain ⟨ov, hcell⟩ := hm5.cell hlt; have hfr := hm5.free k))
      have hset := hm5.set (c := cc) hlt HTS.out hT5 (fun hne a ha => ⟨by have := (hC5 hne a ha).1; simp at this; omega, (hC5 hne a ha).2⟩)
      have hb6 := (below_then HB.out (HBAL.out.trans (hb5.mono HBAL.out.size))).setCell (p := ⟨W1.heap.size, k, none⟩) (Nat.le_refl _) (.slice C ts.length cc)
      go_roundw
      case rel => exact ⟨k + 1, by omega, by go_num, hset, hb6⟩
      case measure => simp [intOf]; omega
    · have hkk : k = nn := by omega
      subst hkk
      have c1 := HB3.out _ HB.out
      have c2 := C2.out.keep HB.out
      obtain ⟨⟨z1, z2, z3, z4⟩, ⟨z5, z6, z7, z8⟩, z9, z10, z11, z12⟩ := c1.c12
      have hf1 := c1.2.2
      have c1b := c1.set (k := 9) (u := .slice (some ⟨W1.heap.size, 0, none⟩) k k)
      have c2b := c2.past (b := w.heap.size) (k := 9) (u := .slice (some ⟨W1.heap.size, 0, none⟩) k k) (by omega)
      have hb4 : Below w.heap.size w (wr.setCell ⟨w.heap.size, 9, none⟩ (.slice (some ⟨W1.heap.size, 0, none⟩) k k)) := (below_then HB2.out HB.out).setCell (p := ⟨w.heap.size, 9, none⟩) (Nat.le_refl _) _
      have hm4 : MidNd (wr.setCell ⟨w.heap.size, 9, none⟩ (.slice (some ⟨W1.heap.size, 0, none⟩) k k)) W1.heap.size k n.ns k := HM.out.other (by omega)
      have hx4 : Own (w.heap.size + 2) (wr.setCell ⟨w.heap.size, 9, none⟩ (.slice (some ⟨W1.heap.size, 0, none⟩) k k)) (.slice XB xn xbc) n.nx := ⟨own_store (HI2.out.grow HB.out).1 (by omega), HI2.out.2⟩
      go_upto_region 9 with fail
      generalize (wr.setCell ⟨w.heap.size, 9, none⟩ (.slice (some ⟨W1.heap.size, 0, none⟩) k k)) = W4 at c1b c2b hb4 hm4 hx4 ⊢
      clear z1 z2 z3 z4 z5 z6 z7 z8 z9 z10 z11 z12 c1 c2 hf1
      obtain ⟨⟨z1, z2, z3, z4⟩, ⟨z5, z6, z7, z8⟩, z9, z10, z11, z12⟩ := Box.c12 (show Box W4 w.heap.size [.int .i64 n.d0, .int .i64 n.d1, .int .i64 n.d2, .int .i64 n.d3, .int .i64 n.c0, .int .i64 n.c1, .int .i64 n.c2, .int .i64 n.c3, .int .i64 n.st, .slice (some ⟨W1.heap.size, 0, none⟩) k k, .slice XB xn xbc, .int .i64 n.out] from c1b)
      obtain ⟨⟨y1, y2, y3, y4⟩, ⟨y5, y6, y7, y8⟩, y9, y10, y11, y12⟩ := c2b.c12
      have hf2 := c2b.2.2
      have hR8 := c2b.fill12 (.int .i64 n.d0) (.int .i64 n.d1) (.int .i64 n.d2) (.int .i64 n.d3) (.int .i64 n.c0) (.int .i64 n.c1) (.int .i64 n.c2) (.int .i64 n.c3) (.int .i64 n.st) (.slice (some ⟨W1.heap.size, 0, none⟩) k k) (.slice XB xn xbc) (.int .i64 n.out)
      have hg8 := fill12_grown W4 (w.heap.size + 1) (.int .i64 n.d0) (.int .i64 n.d1) (.int .i64 n.d2) (.int .i64 n.d3) (.int .i64 n.c0) (.int .i64 n.c1) (.int .i64 n.c2) (.int .i64 n.c3) (.int .i64 n.st) (.slice (some ⟨W1.heap.size, 0, none⟩) k k) (.slice XB xn xbc) (.int .i64 n.out)
      have hbl2 := c2b.1
      clear c1b c2b
      go_wp2_with fail
      change bodyPost _ _ _ _ _ (fill12 W4 (w.heap.size + 1) (.int .i64 n.d0) (.int .i64 n.d1) (.int .i64 n.d2) (.int .i64 n.d3) (.int .i64 n.c0) (.int .i64 n.c1) (.int .i64 n.c2) (.int .i64 n.c3) (.int .i64 n.st) (.slice (some ⟨W1.heap.size, 0, none⟩) k k) (.slice XB xn xbc) (.int .i64 n.out))
      generalize fill12 W4 (w.heap.size + 1) (.int .i64 n.d0) (.int .i64 n.d1) (.int .i64 n.d2) (.int .i64 n.d3) (.int .i64 n.c0) (.int .i64 n.c1) (.int .i64 n.c2) (.int .i64 n.c3) (.int .i64 n.st) (.slice (some ⟨W1.heap.size, 0, none⟩) k k) (.slice XB xn xbc) (.int .i64 n.out) = W8 at hR8 hg8 ⊢
      obtain ⟨⟨g1, g2, g3, g4⟩, ⟨g5, g6, g7, g8⟩, g9, g10, g11, g12⟩ := hR8.c12
      refine bodyPost_ret (v := netV n.d0 n.d1 n.d2 n.d3 n.c0 n.c1 n.c2 n.c3 n.st (some ⟨W1.heap.size, 0, none⟩) k k XB xn xbc n.out) (by simp [results, Try.results23, go_sem, g1, g2, g3, g4, g5, g6, g7, g8, g9, g10, g11, g12]) rfl ?_
      have hm8 := hm4.away hg8 (by omega)
      have hx8 := own_away hx4 hg8 (by omega)
      refine ⟨some ⟨W1.heap.size, 0, none⟩, k, XB, xbc, ?_, ⟨(hm8.nodesF HNN.out).base (by omega), (IntsF.own hx8).base (by omega), HN.out.n1, HN.out.n2, HN.out.n3, HN.out.st⟩, ⟨hm8.nodesT HNN.out (by decide), fun _ a ha => by subst ha; exact own_oth hx8⟩, grown_to hb4 hg8 (by omega)⟩
      rw [← HNN.out, ← HXN.out]
end Go.Proofs.Ytodnbekeidbknaa
