/- Several texts in one: U2 Ta Tb Le Lm Td Ci Cj Cr. -/
import Derived.Test.YtdiflpbioohddaaDoortUtoU3
import Derived.Test.YtdiflpbioohddaaDoortCctoT8
import Derived.Lib.SliceRun
import Derived.Test.YtdiflpbioohddaaDoortE1toI0
import Derived.Deep.MidRow
import Derived.Test.YtdiflpbioohddaaDoortCtoCa
import Derived.Test.YtdiflpbioohddaaDoortAtoV1
import Derived.Test.YtdiflpbioohddaaDoortE19toOn
import Derived.RangeFuncBox
import Derived.Test.YtdiflpbioohddaaDoortE13toE16
set_option linter.unusedVariables false
set_option linter.unusedSimpArgs false
section
namespace Go.Proofs.YtdiflpbioohddaaDoor
open Go.RowKit
theorem TermsAt.block {w : World} {A : Option Addr} {ts : List (Int × Int)} (h : TermsAt w A ts) (hl : ts ≠ []) {ad : Addr} (e : A = some ad) : ad.block < w.heap.size := by
 obtain ⟨t, ht⟩ : ∃ t, ts[0]? = some t := ⟨_, List.getElem?_eq_getElem (List.length_pos_iff.2 hl)⟩
 obtain ⟨ad', e', hb, _⟩ := h 0 t ht
 rw [e] at e'; injection e' with e'; rw [e']; exact hb
theorem TermsAt.kept {w w' : World} {A : Option Addr} {ts : List (Int × Int)} {r : Option Nat} (h : TermsAt w A ts) (hg : w.grownBy w' r) (hn : ts ≠ [] → ∀ a, A = some a → some a.block ≠ r) : TermsAt w' A ts := by
 cases ts with
 | nil => exact TermsAt.nil
 | cons t l => exact h.grown hg (hn (by simp))
theorem Own.form1 {base : Nat} {w : World} {v : Value} {l : List Int} {x : Int} (h : Own base w v (l ++ [x])) : ∃ A c, v = .slice A (l.length + 1) c := by
 obtain ⟨A, c, e, _⟩ := h.form
 exact ⟨A, c, by rw [e, List.length_append]; rfl⟩
theorem OwnTm.store {base g k : Nat} {w : World} {v u : Value} {ts : List (Int × Int)} (h : OwnTm base w v ts) (hg : g < base) : OwnTm base (w.setCell ⟨g, k, none⟩ u) v ts := ⟨own_store h.1 hg, h.2⟩
theorem OwnTm.form1 {base : Nat} {w : World} {v : Value} {ts : List (Int × Int)} {x : Int × Int} (h : OwnTm base w v (ts ++ [x])) : ∃ A c, v = .slice A (ts.length + 1) c := by
 obtain ⟨A, c, e, _⟩ := h.form
 exact ⟨A, c, by rw [e, List.length_append]; rfl⟩
theorem terms_one {w : World} {f y : Int} {t : TypeId} (h1 : I64 f) (h2 : I64 y) : TermsAt (w.alloc (.cells #[.int .i64 f, .int .i64 y] t)) (some ⟨w.heap.size, 0, none⟩) [(f, y)] := fun k x hk => by
 match k, hk with
 | 0, hk =>
  simp at hk; subst hk
  exact ⟨_, rfl, by simp, by simp [go_sem, Addr.add], by simp [go_sem, Addr.add], h1, h2⟩
theorem info_node : (Tryd.prog.info? 36).map (fun i => (i.zero, i.size, i.bytes)) = some (some (.agg #[.slice none 0 0]), 1, 24) := by kernel_rfl
def OwnNd (base : Nat) (w : World) (v : Value) (ns : List (List (Int × Int))) : Prop :=
 ∃ cs : List Value, w.ownsRow base 36 1 v ns.length cs ∧ ∀ (k : Nat) l, ns[k]? = some l → ∃ C c, cs[k]? = some (.slice C l.length c) ∧ TermsAt w C l ∧ (l ≠ [] → ∀ a, C = some a → base ≤ a.block ∧ some a.block ≠ v.ownBlock)
theorem OwnNd.nil {base : Nat} {w : World} : OwnNd base w (.slice none 0 0) [] := ⟨[], World.ownsRow_nil _ _ _ _, fun k s h => by simp at h⟩
theorem OwnNd.grow {base : Nat} {w w' : World} {v : Value} {ns : List (List (Int × Int))} (h : OwnNd base w v ns) (hb : Below w.heap.size w w') : OwnNd base w' v ns := by
 obtain ⟨cs, h1, h2⟩ := h
 refine ⟨cs, own_grow h1 hb, fun k s hk => ?_⟩
 obtain ⟨C, c, c0, hi, hn⟩ := h2 k s hk
 exact ⟨C, c, c0, hi.grow hb, hn⟩
theorem OwnNd.store {base g k : Nat} {w : World} {v u : Value} {ns : List (List (Int × Int))} (h : OwnNd base w v ns) (hg : g < base) : OwnNd base (w.setCell ⟨g, k, none⟩ u) v ns := by
 obtain ⟨cs, h1, h2⟩ := h
 refine ⟨cs, own_store h1 hg, fun k s hk => ?_⟩
 obtain ⟨C, c, c0, hi, hn⟩ := h2 k s hk
 exact ⟨C, c, c0, hi.kept (grown_set (grown_refl w (some g))) (fun hl a ha e => by injection e with e; have := (hn hl a ha).1; omega), hn⟩
theorem OwnNd.lt {base : Nat} {w : World} {v : Value} {ns : List (List (Int × Int))} (h : OwnNd base w v ns) : ∀ b, v.ownBlock = some b → base ≤ b ∧ b < w.heap.size := fun b hb => by
 obtain ⟨cs, h1, _⟩ := h
 exact h1.lt b hb
theorem OwnNd.form {base : Nat} {w : World} {v : Value} {ns : List (List (Int × Int))} (h : OwnNd base w v ns) : ∃ A c, v = .slice A ns.length c ∧ NodesAt w A ns := by
 obtain ⟨cs, h1, h2⟩ := h
 obtain ⟨A, c, rfl, _⟩ := own_form h1
 refine ⟨A, c, rfl, fun k l hk => ?_⟩
 obtain ⟨C, d, c0, hi, _⟩ := h2 k l hk
 obtain ⟨g, e0, hg, d0⟩ := own_cells h1 c0
 exact ⟨_, C, d, e0, hg, by rw [add_cellsB]; exact d0, hi⟩
theorem OwnNd.away {base g : Nat} {w w' : World} {v : Value} {ns : List (List (Int × Int))} (h : OwnNd base w v ns) (hg : w.grownBy w' (some g)) (hgb : g < base) : OwnNd base w' v ns := by
 obtain ⟨cs, h1, h2⟩ := h
 refine ⟨cs, h1.kept hg (.inr (fun e => by have := (h1.lt _ e).1; omega)), fun k s hk => ?_⟩
 obtain ⟨C, c, c0, hi, hn⟩ := h2 k s hk
 exact ⟨C, c, c0, hi.kept hg (fun hl a ha e => by injection e with e; have := (hn hl a ha).1; omega), hn⟩
theorem OwnNd.form1 {base : Nat} {w : World} {v : Value} {ns : List (List (Int × Int))} {x : List (Int × Int)} (h : OwnNd base w v (ns ++ [x])) : ∃ A c, v = .slice A (ns.length + 1) c := by
 obtain ⟨A, c, e, _⟩ := h.form
 exact ⟨A, c, by rw [e, List.length_append]; rfl⟩
theorem app_node {ops : Array Oper} {rest : List Oper} {o : Oper} {a : Act} {Q : Exit → Act → World → Prop} (W : World) (hgd : o.guard = none) (s x : Operand) (ho : o.op = .call { callee := .builtin .append, args := #[s, x], argTypes := #[24, 24] })
  (base : Nat) {v : Value} {ll : List (List (Int × Int))} {l : List (Int × Int)} {n : Nat} {C : Option Addr} {c : Nat} (hown : OwnNd base W v ll) (hs : a.eval s = v) (hx : a.eval x = .slice (some ⟨W.heap.size, 0, none⟩) 1 1) (hln : l.length = n) (hC : TermsAt W C l) (hne : l ≠ [] → ∀ a, C = some a → base ≤ a.block ∧ some a.block ≠ v.ownBlock)
  (hn : ll.length ≤ 1000) (hbase : base ≤ W.heap.size)
  (h : ∀ v' w', OwnNd base w' v' (ll ++ [l]) → Below base W w' → (W.alloc (.cells #[.slice C n c] 36)).grownBy w' v.ownBlock → (v'.ownBlock = v.ownBlock ∨ v'.ownBlock = some (W.heap.size + 1)) → wpList Tryd.prog ops Q rest (a.put o.dst v') w') :
  wpList Tryd.prog ops Q (o :: rest) a (W.alloc (.cells #[.slice C n c] 36)) := by
 subst hln
 obtain ⟨i0, hi, hz0, hz1, hz2⟩ := info_parts info_node
 obtain ⟨cs, hr, hcs⟩ := hown
 have hba := (Below.refl W.heap.size W).alloc (Nat.le_refl _) (.cells #[.slice C l.length c] 36)
 have hb0 := (Below.refl base W).alloc hbase (.cells #[.slice C l.length c] 36)
 obtain ⟨v', w', hrun, hr', hg, _, hob⟩ := run_append_own_at (P := Tryd.prog) (W.alloc (.cells #[.slice C l.length c] 36)) base 24 o.type 36 i0 _ 1 24 Tryd.underlying24 hi hz0 hz1 hz2 rfl (by decide) v ll.length cs (hr.alloc _) ⟨W.heap.size, 0, none⟩ 1 1 [.slice C l.length c] rfl
  (fun j u hu => by
   rw [add_cellsB]
   match j, hu with
   | 0, hu => simp at hu; subst hu; simp [go_sem])
  (fun u hu => by simp at hu; subst hu; rfl) (by unfold maxLen; omega) (by omega) (by simp; omega)
 refine wpList_plain hgd fun K hK => ?_
 unfold Oper.wp execOp
 simp only [ho, resolve, invoke, builtin, Sem.run_bind, Sem.run_pure, Result.andThen_ok, List.map_toArray, List.map_cons, List.map_nil, hs, hx, hrun]
 refine hK _ _ (h v' w' ?_ ?_ hg (by rcases hob with h1 | h1; exact .inl h1; exact .inr (by rw [h1]; simp)))
 ·have keep : ∀ (C : Option Addr) (l : List (Int × Int)), TermsAt W C l → (l ≠ [] → ∀ a, C = some a → base ≤ a.block ∧ some a.block ≠ v.ownBlock) → TermsAt w' C l ∧ (l ≠ [] → ∀ a, C = some a → base ≤ a.block ∧ some a.block ≠ v'.ownBlock) := fun C l hI hn => by
   refine ⟨(hI.grow hba).kept hg (fun hl a ha => (hn hl a ha).2), fun hl a ha => ⟨(hn hl a ha).1, fun e => ?_⟩⟩
   rcases hob with h1 | h1
   ·exact (hn hl a ha).2 (e.trans h1)
   ·rw [h1] at e
    injection e with e
    have := hI.block hl ha
    simp at e
    omega
  refine ⟨cs ++ [.slice C l.length c], by rw [List.length_append]; exact hr', fun k s hk => ?_⟩
  have hlen := hr.1
  rw [List.getElem?_append] at hk
  split at hk
  ·rename_i hlt
   obtain ⟨C', c', c0, hI, hn'⟩ := hcs k s hk
   obtain ⟨k1, k2⟩ := keep C' _ hI hn'
   refine ⟨C', c', ?_, k1, k2⟩
   rw [List.getElem?_append_left (by omega)]; assumption
  ·rename_i hlt
   have hk0 : k = ll.length := by
    rcases Nat.lt_or_ge (k - ll.length) 1 with h | h
    ·omega
    ·rw [List.getElem?_eq_none (by simpa using h)] at hk; cases hk
   subst hk0
   simp at hk
   subst hk
   obtain ⟨k1, k2⟩ := keep C _ hC hne
   refine ⟨C, c, ?_, k1, k2⟩
   rw [List.getElem?_append_right (by omega), show ll.length - cs.length = 0 by omega]; rfl
 ·exact hb0.grown hg (by simp; omega) (fun k hk => (hr.lt k hk).1)
end Go.Proofs.YtdiflpbioohddaaDoor
end
section
namespace Go.Proofs.YtdiflpbioohddaaDoor
open Go.RowKit
def NodesF (b : Nat) (w : World) (A : Option Addr) (ns : List (List (Int × Int))) : Prop :=
 ∀ (k : Nat) ts, ns[k]? = some ts → ∃ ad B c, A = some ad ∧ b ≤ ad.block ∧ ad.block < w.heap.size ∧ w.cell? (ad.add k) = some (.slice B ts.length c) ∧ TermsAt w B ts ∧ (ts ≠ [] → ∀ a, B = some a → b ≤ a.block)
theorem NodesF.at {b : Nat} {w : World} {A : Option Addr} {ns : List (List (Int × Int))} (h : NodesF b w A ns) : NodesAt w A ns := fun k ts hk => by
 obtain ⟨ad, B, c, e, _, h1, h2, h3, _⟩ := h k ts hk
 exact ⟨ad, B, c, e, h1, h2, h3⟩
theorem NodesF.nil {b : Nat} {w : World} {A : Option Addr} : NodesF b w A [] := fun k t h => by simp at h
theorem NodesF.base {b b' : Nat} {w : World} {A : Option Addr} {ns : List (List (Int × Int))} (h : NodesF b w A ns) (hb : b' ≤ b) : NodesF b' w A ns := fun k ts hk => by
 obtain ⟨ad, B, c, e, h0, h1, h2, h3, h4⟩ := h k ts hk
 exact ⟨ad, B, c, e, by omega, h1, h2, h3, fun hl a ha => Nat.le_trans hb (h4 hl a ha)⟩
theorem NodesF.grow {b : Nat} {w w' : World} {A : Option Addr} {ns : List (List (Int × Int))} (h : NodesF b w A ns) (hb : Below w.heap.size w w') : NodesF b w' A ns := fun k ts hk => by
 obtain ⟨ad, B, c, e, h0, h1, h2, h3, h4⟩ := h k ts hk
 exact ⟨ad, B, c, e, h0, Nat.lt_of_lt_of_le h1 hb.size, (hb.cell (by rw [block_add]; exact h1)).trans h2, h3.grow hb, h4⟩
theorem NodesF.away {b q : Nat} {w w' : World} {A : Option Addr} {ns : List (List (Int × Int))} (h : NodesF b w A ns) (hg : w.grownBy w' (some q)) (hq : q < b) : NodesF b w' A ns := fun k ts hk => by
 obtain ⟨ad, B, c, e, h0, h1, h2, h3, h4⟩ := h k ts hk
 exact ⟨ad, B, c, e, h0, Nat.lt_of_lt_of_le h1 hg.size, hg.cell h2 (by rw [block_add]; intro e'; injection e' with e'; omega), h3.kept hg (fun hl a ha e' => by injection e' with e'; have := h4 hl a ha; omega), h4⟩
structure NetF (b : Nat) (w : World) (n : NetD) (NA XA : Option Addr) : Prop where
 nodes : NodesF b w NA n.ns
 next : IntsF b w XA n.nx
 n1 : n.ns.length ≤ 9223372036854775807
 n2 : n.nx.length ≤ 9223372036854775807
 n3 : ∀ ts ∈ n.ns, ts.length ≤ 9223372036854775807
 st : I64 n.st
theorem NetF.at {b : Nat} {w : World} {n : NetD} {NA XA : Option Addr} (h : NetF b w n NA XA) : NetAt w n NA XA := ⟨h.nodes.at, h.next.1, h.n1, h.n2, h.n3, h.st⟩
theorem NetF.base {b b' : Nat} {w : World} {n : NetD} {NA XA : Option Addr} (h : NetF b w n NA XA) (hb : b' ≤ b) : NetF b' w n NA XA := ⟨h.nodes.base hb, h.next.base hb, h.n1, h.n2, h.n3, h.st⟩
theorem NetF.grow {b : Nat} {w w' : World} {n : NetD} {NA XA : Option Addr} (h : NetF b w n NA XA) (hb : Below w.heap.size w w') : NetF b w' n NA XA := ⟨h.nodes.grow hb, h.next.grow hb, h.n1, h.n2, h.n3, h.st⟩
theorem NetF.away {b q : Nat} {w w' : World} {n : NetD} {NA XA : Option Addr} (h : NetF b w n NA XA) (hg : w.grownBy w' (some q)) (hq : q < b) : NetF b w' n NA XA := ⟨h.nodes.away hg hq, h.next.away hg hq, h.n1, h.n2, h.n3, h.st⟩
theorem NetF.zero {b : Nat} {w : World} {NA XA : Option Addr} : NetF b w NetD.zero NA XA := ⟨NodesF.nil, IntsF.nil, by decide, by decide, by simp [NetD.zero], by decide, by decide⟩
theorem NetF.of {w : World} {n : NetD} {NA XA : Option Addr} (h : NetAt w n NA XA) : NetF 0 w n NA XA :=
 ⟨fun k ts hk => by obtain ⟨ad, B, c, e, h1, h2, h3⟩ := h.nodes k ts hk; exact ⟨ad, B, c, e, Nat.zero_le _, h1, h2, h3, fun _ _ _ => Nat.zero_le _⟩, ⟨h.next, fun _ _ _ => Nat.zero_le _⟩, h.n1, h.n2, h.n3, h.st⟩
theorem own_away {base q : Nat} {w w' : World} {v : Value} {l : List Int} (h : Own base w v l) (hg : w.grownBy w' (some q)) (hq : q < base) : Own base w' v l := ⟨h.1.kept hg (.inr (fun e => by have := (h.1.lt _ e).1; omega)), h.2⟩
end Go.Proofs.YtdiflpbioohddaaDoor
end
section
namespace Go.Proofs.YtdiflpbioohddaaDoor
open Go.RowKit
def NetD.lst (n : NetD) (NA : Option Addr) (nc : Nat) (XA : Option Addr) (xc : Nat) : List Value :=
 [.int .i64 n.d0, .int .i64 n.d1, .int .i64 n.d2, .int .i64 n.d3, .int .i64 n.c0, .int .i64 n.c1, .int .i64 n.c2, .int .i64 n.c3, .int .i64 n.st, .slice NA n.ns.length nc, .slice XA n.nx.length xc, .int .i64 n.out]
def StrD.zero : StrD := ⟨NetD.zero, NetD.zero, [], [], 0, 0, 0⟩
theorem size_net : (Tryd.prog.info? 27).map (·.size) = some 12 := by kernel_rfl
theorem row_net : ∃ d, Tryd.prog.underlying 27 = some d ∧ d.isRow = true := ⟨_, Tryd.underlying27, rfl⟩
end Go.Proofs.YtdiflpbioohddaaDoor
end
section
namespace Go.Proofs.YtdiflpbioohddaaDoor
open Go.RowKit
theorem Ints.one {w : World} {y : Int} {t : TypeId} (hy : I64 y) : Ints (w.alloc (.cells #[.int .i64 y] t)) (some ⟨w.heap.size, 0, none⟩) [y] := by
 refine ⟨fun k v hk => ?_, by intro x hx; simp at hx; subst hx; exact hy⟩
 match k, hk with
 | 0, hk => simp at hk; subst hk; exact ⟨_, rfl, by simp, by simp [go_sem, Addr.add]⟩
end Go.Proofs.YtdiflpbioohddaaDoor
end
section
namespace Go.Proofs.YtdiflpbioohddaaDoor
open Go.RowKit
def mixE (old fresh step steps : Int) : Int := if (inB steps 1 4096 && inB step 0 steps) = true then (if (inB old (-16777216) 16777216 && inB fresh (-16777216) 16777216) = true then 0 else 17) else 1
def mixV (old fresh step steps : Int) : Int := if mixE old fresh step steps = 0 then old + (fresh - old) * step / steps else 0
end Go.Proofs.YtdiflpbioohddaaDoor
end
section
namespace Go.Proofs.YtdiflpbioohddaaDoor
open Go.RowKit
theorem atF_mem {l : List Int} {i : Int} (h0 : 0 ≤ i) (h1 : i < (l.length : Int)) : atF l i ∈ l := by
 obtain ⟨k, rfl⟩ : ∃ k : Nat, i = (k : Int) := ⟨i.toNat, by omega⟩
 have hk : k < l.length := by omega
 rw [atF_nat (List.getElem?_eq_getElem hk)]
 exact List.getElem_mem hk
theorem state_iff {n : NetD} {s : List Int} : n.state s = true ↔ (s.length : Int) = n.st ∧ ∀ v ∈ s, fitsW n.d0 n.d1 n.d2 n.d3 v = true := by
 unfold NetD.state NetD.fit
 rw [Bool.and_eq_true, beq_iff_eq, List.all_eq_true]
theorem vals_facts {n : NetD} {s : List Int} {x : Int} (hok : n.ok = true) (hs : n.state s = true) (hx : fitsW n.d0 n.d1 n.d2 n.d3 x = true) :
  (n.vals s x).length = 1 + s.length + n.ns.length ∧ ∀ v ∈ n.vals s x, fitsW n.d0 n.d1 n.d2 n.d3 v = true := by
 obtain ⟨h1, h2⟩ := state_iff.1 hs
 obtain ⟨p1, -⟩ := netB_parts hok
 exact ⟨vals_at hok h1, fun v hv => valsF_fits p1 (fits_cons hx h2) _ v hv⟩
theorem follow_state {n : NetD} {s : List Int} {x : Int} (hok : n.ok = true) (hs : n.state s = true) (hx : fitsW n.d0 n.d1 n.d2 n.d3 x = true) : n.state (n.follow s x) = true := by
 obtain ⟨h1, h2⟩ := vals_facts hok hs hx
 obtain ⟨-, -, -, -, p5, -, p7, -, -⟩ := netB_parts hok
 have hl := (state_iff.1 hs).1
 refine state_iff.2 ⟨by unfold NetD.follow followF; rw [List.length_map]; exact p5.symm, fun v hv => ?_⟩
 obtain ⟨i, hi, rfl⟩ := List.mem_map.1 hv
 have := p7 i hi
 exact h2 _ (atF_mem (by omega) (by rw [h1]; push_cast; omega))
namespace StrD
def stS (d : StrD) (x : List Int) : Nat → List Int
 | 0 => d.s
 | k + 1 => match x[k]? with | some y => d.net.follow (d.stS x k) y | none => d.stS x k
def stF (d : StrD) (x : List Int) : Nat → List Int
 | 0 => d.f
 | k + 1 => match x[k]? with | some y => d.old.follow (d.stF x k) y | none => d.stF x k
def outY (d : StrD) (x : List Int) (k : Nat) (y : Int) : Int :=
 if (k : Int) < d.left then mixV (d.old.outp (d.stF x k) y) (d.net.outp (d.stS x k) y) (d.fade - (d.left - k) + 1) d.fade else d.net.outp (d.stS x k) y
def outS (d : StrD) (x : List Int) : Nat → List Int
 | 0 => []
 | k + 1 => match x[k]? with | some y => d.outS x k ++ [d.outY x k y] | none => d.outS x k
def step (d : StrD) (x : List Int) (k : Nat) : StrD := if (k : Int) < d.left then ⟨d.net, d.old, d.stS x k, d.stF x k, d.fade, d.left - k, d.ev⟩ else ⟨d.net, NetD.zero, d.stS x k, [], 0, 0, d.ev⟩
end StrD
section
variable {d : StrD} {x : List Int} {k : Nat} {y : Int}
theorem stS_succ (h : x[k]? = some y) : d.stS x (k + 1) = d.net.follow (d.stS x k) y := by
 show (match x[k]? with | some y => _ | none => _) = _
 rw [h]
theorem outS_succ (h : x[k]? = some y) : d.outS x (k + 1) = d.outS x k ++ [d.outY x k y] := by
 show (match x[k]? with | some y => _ | none => _) = _
 rw [h]
theorem outS_length : ∀ k, k ≤ x.length → (d.outS x k).length = k
 | 0, _ => rfl
 | k + 1, h => by
  rw [outS_succ (List.getElem?_eq_getElem (by omega)), List.length_append, outS_length k (by omega)]; rfl
theorem stS_state (hg : d.Good) (hx : d.net.fit x = true) : ∀ k, k ≤ x.length → d.net.state (d.stS x k) = true
 | 0, _ => hg.2.1
 | k + 1, h => by
  have hk := List.getElem?_eq_getElem (l := x) (i := k) (by omega)
  rw [stS_succ hk]
  exact follow_state hg.1 (stS_state hg hx k (by omega)) (List.all_eq_true.1 hx _ (List.mem_of_getElem? hk))
theorem outY_off (h : ¬ (k : Int) < d.left) : d.outY x k y = d.net.outp (d.stS x k) y := if_neg h
end
end Go.Proofs.YtdiflpbioohddaaDoor
end
section
namespace Go.Proofs.YtdiflpbioohddaaDoor
open Go.RowKit
def NetD.prg (n : NetD) : PrgD := compD n.d0 n.d1 n.d2 n.d3 n.c0 n.c1 n.c2 n.c3 n.st n.out n.ns n.nx
theorem take_one {xs : List Int} {k : Nat} {y : Int} (h : xs[k]? = some y) : xs.take (k + 1) = xs.take k ++ [y] := by rw [List.take_add_one, h]; rfl
theorem stS_nw {n : NetD} {u : StrD} (hu : u.net = n) {xs : List Int} : ∀ k, k ≤ xs.length → u.stS xs k = nwS n.prg n.ns n.nx u.s (xs.take k)
 | 0, _ => rfl
 | k + 1, hk => by
  obtain ⟨y, hy⟩ : ∃ y, xs[k]? = some y := ⟨_, List.getElem?_eq_getElem (by omega)⟩
  rw [stS_succ hy, take_one hy, nwS_app, ← stS_nw hu k (by omega), hu]; rfl
theorem outS_nw {n : NetD} {u : StrD} (hu : u.net = n) (hl : u.left = 0) {xs : List Int} : ∀ k, k ≤ xs.length → u.outS xs k = nwO n.prg n.out n.ns n.nx u.s (xs.take k)
 | 0, _ => rfl
 | k + 1, hk => by
  obtain ⟨y, hy⟩ : ∃ y, xs[k]? = some y := ⟨_, List.getElem?_eq_getElem (by omega)⟩
  have ho : u.outY xs k y = u.net.outp (u.stS xs k) y := by
   unfold StrD.outY
   rw [if_neg (by omega)]
  rw [outS_succ hy, take_one hy, nwO_app, ← stS_nw hu k (by omega), ← outS_nw hu hl k (by omega), ho, hu]; rfl
def NetD.cnt (n : NetD) (s xs : List Int) (k : Nat) : Int := nwC n.prg n.ns n.nx s (xs.take k)
theorem ncnt_succ {n : NetD} {s xs : List Int} {k : Nat} {y : Int} (h : xs[k]? = some y) : n.cnt s xs (k + 1) = n.cnt s xs k + (if overF n.d0 n.d1 n.d2 n.d3 n.c1 n.ns (y :: nwS n.prg n.ns n.nx s (xs.take k)) n.ns.length then 1 else 0) := by
 unfold NetD.cnt
 rw [take_one h, nwC_app]
 show _ + (_ + 0) = _
 rw [Int.add_zero]; rfl
theorem cnt_is {n : NetD} {u : StrD} (hu : u.net = n) {xs : List Int} {C : Nat → Int} (h0 : C 0 = 0) (hs : ∀ k y, xs[k]? = some y → C (k + 1) = C k + (if overF n.d0 n.d1 n.d2 n.d3 n.c1 n.ns (y :: u.stS xs k) n.ns.length = true then 1 else 0)) : ∀ k, k ≤ xs.length → C k = n.cnt u.s xs k
 | 0, _ => h0
 | k + 1, hk => by
  obtain ⟨y, hy⟩ : ∃ y, xs[k]? = some y := ⟨_, List.getElem?_eq_getElem (by omega)⟩
  rw [hs k y hy, ncnt_succ hy, cnt_is hu h0 hs k (by omega), stS_nw hu k (by omega)]
end Go.Proofs.YtdiflpbioohddaaDoor
end
section
namespace Go.Proofs.YtdiflpbioohddaaDoor
open Go.RowKit
def noI : Obj → Prop
 | .cells _ t _ => t ≠ 109
 | _ => True
structure GenAt (base B : Nat) (t : TypeId) (R : List Value) (X : List (Nat × Obj)) (w : World) (v : Value) (l : List Ins) : Prop where
 heap : w.heap[B]? = some (.cells (v :: R).toArray t (0, 0))
 own : OwnIR base w v l
 lo : base ≤ B
 typ : t ≠ 109
 keep : ∀ x ∈ X, w.heap[x.1]? = some x.2 ∧ x.1 ≠ B ∧ noI x.2
theorem row_apart {w : World} {base k : Nat} {v : Value} {l : List Ins} {o : Obj} (hr : OwnIR base w v l) (h : w.heap[k]? = some o) (ho : noI o) : some k ≠ v.ownBlock := by
 rcases hr.1.2 with ⟨rfl, _⟩ | ⟨g, cap, cur, rfl, _, hgb, _⟩
 ·simp [Value.ownBlock]
 ·intro e'
  obtain rfl : k = g := by simpa [Value.ownBlock] using e'
  rw [h] at hgb
  injection hgb with hgb
  subst hgb
  exact ho rfl
theorem lt_heap {w : World} {k : Nat} {o : Obj} (h : w.heap[k]? = some o) : k < w.heap.size := (Array.getElem?_eq_some_iff.1 h).1
theorem cell_heap {w : World} {B j : Nat} {a : Array Value} {t : TypeId} (h : w.heap[B]? = some (.cells a t (0, 0))) : w.cell? ⟨B, j, none⟩ = a[j]? := by
 simp [World.cell?, h]
theorem frozen_heap {w : World} {B j : Nat} {a : Array Value} {t : TypeId} (h : w.heap[B]? = some (.cells a t (0, 0))) : w.frozen? ⟨B, j, none⟩ = false := by
 simp [World.frozen?, h]
theorem heap_set {w : World} {B j : Nat} {a : Array Value} {t : TypeId} (h : w.heap[B]? = some (.cells a t (0, 0))) (u : Value) : (w.setCell ⟨B, j, none⟩ u).heap[B]? = some (.cells (a.setIfInBounds j u) t (0, 0)) := by
 obtain ⟨hlt, hk⟩ := Array.getElem?_eq_some_iff.1 h
 show (w.heap.modify B _)[B]? = _
 rw [Array.getElem?_eq_getElem (by rw [Array.size_modify]; exact hlt), Array.getElem_modify_self, hk]
 rfl
namespace GenAt
variable {base B : Nat} {t : TypeId} {R : List Value} {X : List (Nat × Obj)} {w w' : World} {v v' : Value} {l l' : List Ins}
theorem box (h : GenAt base B t R X w v l) : Box w B (v :: R) :=
 ⟨lt_heap h.heap, fun k => by rw [cell_heap h.heap]; simp, fun k => frozen_heap h.heap⟩
theorem size (h : GenAt base B t R X w v l) : base ≤ w.heap.size := Nat.le_of_lt (Nat.lt_of_le_of_lt h.lo (lt_heap h.heap))
theorem keepB (h : GenAt base B t R X w v l) (hb : Below w.heap.size w w') : GenAt base B t R X w' v l :=
 ⟨(hb.block B (lt_heap h.heap)).trans h.heap, h.own.grow hb, h.lo, h.typ, fun x hx => ⟨(hb.block _ (lt_heap (h.keep x hx).1)).trans (h.keep x hx).1, (h.keep x hx).2⟩⟩
theorem put (h : GenAt base B t R X w v l) (hg : w.grownBy w' v.ownBlock) (ho : OwnIR base w' v' l') : GenAt base B t R X (w'.setCell ⟨B, 0, none⟩ v') v' l' ∧ Below base w (w'.setCell ⟨B, 0, none⟩ v') := by
 have hB : some B ≠ v.ownBlock := row_apart h.own h.heap h.typ
 have hh : w'.heap[B]? = some (.cells (v :: R).toArray t (0, 0)) := (hg.block B (lt_heap h.heap) hB).trans h.heap
 have hB' : some B ≠ v'.ownBlock := row_apart ho hh h.typ
 refine ⟨⟨?_, ⟨ownsRow_setCell_other ho.1 (fun e => hB' e.symm) _, ho.2⟩, h.lo, h.typ, fun x hx => ?_⟩, ?_⟩
 ·rw [heap_set hh]; simp
 ·obtain ⟨k1, k2, k3⟩ := h.keep x hx
  refine ⟨?_, k2, k3⟩
  rw [Below.heap_setCell _ _ _ _ k2]
  exact (hg.block _ (lt_heap k1) (row_apart h.own k1 k3)).trans k1
 ·exact ((Below.refl base w).grown hg h.size (fun k e => (h.own.1.lt k e).1)).setCell (p := ⟨B, 0, none⟩) h.lo _
theorem set (h : GenAt base B t R X w v l) (j : Nat) (u : Value) : GenAt base B t (R.set j u) X (w.setCell ⟨B, j + 1, none⟩ u) v l ∧ Below base w (w.setCell ⟨B, j + 1, none⟩ u) := by
 have hB : some B ≠ v.ownBlock := row_apart h.own h.heap h.typ
 refine ⟨⟨?_, ⟨ownsRow_setCell_other h.own.1 (fun e => hB e.symm) _, h.own.2⟩, h.lo, h.typ, fun x hx => ?_⟩, (Below.refl base w).setCell (p := ⟨B, j + 1, none⟩) h.lo _⟩
 ·rw [heap_set h.heap]; simp
 ·obtain ⟨k1, k2, k3⟩ := h.keep x hx
  exact ⟨by rw [Below.heap_setCell _ _ _ _ k2]; exact k1, k2, k3⟩
theorem more (h : GenAt base B t R X w v l) {k : Nat} {o : Obj} (hk : w.heap[k]? = some o) (hn : k ≠ B) (ho : noI o) : GenAt base B t R ((k, o) :: X) w v l :=
 ⟨h.heap, h.own, h.lo, h.typ, fun x hx => by
  rcases List.mem_cons.1 hx with rfl | hx
  ·exact ⟨hk, hn, ho⟩
  ·exact h.keep x hx⟩
end GenAt
end Go.Proofs.YtdiflpbioohddaaDoor
end
section
namespace Go.Proofs.YtdiflpbioohddaaDoor
open Go.RowKit
def RetGen (base B : Nat) (t : TypeId) (R : List Value) (X : List (Nat × Obj)) (w : World) (l : List Ins) (e : Ending) (w' : World) : Prop := e = .returned (.tuple #[]) ∧ Below base w w' ∧ ∃ v, GenAt base B t R X w' v l
def RetGenI (base B : Nat) (t : TypeId) (R : List Value) (X : List (Nat × Obj)) (w : World) (y : Int) (l : List Ins) (e : Ending) (w' : World) : Prop := e = .returned (.int .i64 y) ∧ Below base w w' ∧ ∃ v, GenAt base B t R X w' v l
def genR (nv : List Value) (last : Int) : List Value := nv ++ [.int .i64 last]
theorem genR_get {nv : List Value} {last : Int} (h : nv.length = 12) : (genR nv last)[12]? = some (.int .i64 last) := by
 unfold genR
 rw [List.getElem?_append_right (by omega), h]; rfl
theorem genR_set {nv : List Value} {last x : Int} (h : nv.length = 12) : (genR nv last).set 12 (.int .i64 x) = genR nv x := by
 unfold genR
 rw [List.set_append_right _ _ (by omega), h]; rfl
theorem ok_small {a b c d : Int} (ha : -9000000000000000000 ≤ a ∧ a ≤ 9000000000000000000) (hb : -9000000000000000000 ≤ b ∧ b ≤ 9000000000000000000) (hc : -9000000000000000000 ≤ c ∧ c ≤ 9000000000000000000) (hd : -9000000000000000000 ≤ d ∧ d ≤ 9000000000000000000) : (⟨a, b, c, d⟩ : Ins).ok := by
 refine ⟨⟨?_, ?_⟩, ⟨?_, ?_⟩, ⟨?_, ?_⟩, ⟨?_, ?_⟩⟩ <;> (try simp only) <;> omega
theorem ok_imm {a b c d : Int} (ha : -9000000000000000000 ≤ a ∧ a ≤ 9000000000000000000) (hb : -9000000000000000000 ≤ b ∧ b ≤ 9000000000000000000) (hc : -9000000000000000000 ≤ c ∧ c ≤ 9000000000000000000) (hd : I64 d) : (⟨a, b, c, d⟩ : Ins).ok := by
 refine ⟨⟨?_, ?_⟩, ⟨?_, ?_⟩, ⟨?_, ?_⟩, hd⟩ <;> (try simp only) <;> omega
theorem termI_zero {c : Int} : termI (0, c) = ⟨2, 0, 0, c⟩ := rfl
theorem termI_pos {f c : Int} (h : f ≠ 0) : termI (f, c) = ⟨3, f - 1, 0, c⟩ := if_neg h
theorem app_insH {ops : Array Oper} {rest : List Oper} {o : Oper} {a : Act} {Q : Exit → Act → World → Prop} (w : World) (hg : o.guard = none) (s x : Operand) (ho : o.op = .call { callee := .builtin .append, args := #[s, x], argTypes := #[39, 39] })
  (base : Nat) {v : Value} {l m : List Ins} {A : Option Addr} {n c : Nat} (hs : a.eval s = v) (hx : a.eval x = .slice A n c) (hown : OwnIR base w v l) (hI : InsAt w A m) (hm : m.length = n) (hn : l.length + n ≤ 100000000) (hbase : base ≤ w.heap.size)
  (h : ∀ v' w', OwnIR base w' v' (l ++ m) → w.grownBy w' v.ownBlock → wpList Tryd.prog ops Q rest (a.put o.dst v') w') : wpList Tryd.prog ops Q (o :: rest) a w := by
 subst hm
 refine app_row w hg s x 39 109 (.agg #[.int .i64 0, .int .i64 0, .int .i64 0, .int .i64 0]) 4 32 ho und_ins info_ins rfl (by decide) (by decide) base hs hx hown.1 (ys := (m.flatMap encI).map (Value.int .i64)) ?_ hI.row nums_one hn hbase fun v' w' h1 h2 h3 => h v' w' ⟨?_, ?_⟩ h2
 ·rw [List.length_map, flat_length (enc := encI) (sz := 4) (fun _ => rfl)]
 ·rw [List.flatMap_append, List.map_append, List.length_append]; exact h1
 ·intro i hi
  rcases List.mem_append.1 hi with hi | hi
  ·exact hown.2 i hi
  ·exact hI.ok i hi
theorem ins_lit1 {w : World} {i : Ins} (hi : i.ok) : InsAt (w.alloc (.cells i.cells.toArray 109)) (some ⟨w.heap.size, 0, none⟩) [i] := by
 obtain ⟨A, c, e, -, h⟩ := (OwnIR.single (w := w) hi).form
 injection e with e
 subst e
 exact h
theorem GenAt.put0 {base B : Nat} {t : TypeId} {R : List Value} {X : List (Nat × Obj)} {w w' : World} {v : Value} {l : List Ins} (h : GenAt base B t R X w v l) (hg : w.grownBy w' v.ownBlock) : w'.cell? ⟨B, 0, none⟩ = some v ∧ w'.frozen? ⟨B, 0, none⟩ = false := by
 have hh : w'.heap[B]? = some (.cells (v :: R).toArray t (0, 0)) := (hg.block B (lt_heap h.heap) (row_apart h.own h.heap h.typ)).trans h.heap
 exact ⟨by rw [cell_heap hh]; rfl, frozen_heap hh⟩
set_option maxRecDepth 100000 in
set_option maxHeartbeats 1000000 in
theorem cg_emit {base B : Nat} {t : TypeId} {R : List Value} {X : List (Nat × Obj)} {w : World} {v : Value} {l : List Ins} (op a b im : Int) (h : GenAt base B t R X w v l) (hok : (⟨op, a, b, im⟩ : Ins).ok) (hl : l.length < 1000000) :
  Calls Tryd.prog 35 #[.pointer (some ⟨B, 0, none⟩), .int .i64 op, .int .i64 a, .int .i64 b, .int .i64 im] w (RetGen base B t R X w (l ++ [⟨op, a, b, im⟩])) := by
 obtain ⟨A, c, rfl, hc, hi⟩ := h.own.form
 obtain ⟨n, hn⟩ : ∃ n, l.length = n := ⟨_, rfl⟩
 have HN := Lib.hid hn
 rw [hn] at h hl
 have x0 : w.cell? ⟨B, 0, none⟩ = some (.slice A n c) := by rw [cell_heap h.heap]; rfl
 have HG := Lib.hid h
 have HOK := Lib.hid hok
 have hb : Below w.heap.size w (w.alloc (.cells (⟨op, a, b, im⟩ : Ins).cells.toArray 109)) := (Below.refl w.heap.size w).alloc (Nat.le_refl _) _
 have HL := Lib.hid (h.keepB hb)
 have HBL := Lib.hid (hb.mono h.size)
 clear h hok hc hi hn hb
 go_enter Tryd.func35, Tryd.ntmps35
 go_wp2_with (first
  | ((with_reducible show wpList _ _ _ (Oper.mk _ (.buildSlice _ _ _) _ _ _ _ :: _) _ _); refine bld_ins1 (i := ⟨op, a, b, im⟩) rfl _ rfl rfl ?_)
  | (at_builtin; refine app_insH (v := .slice A n c) _ rfl _ _ rfl base rfl rfl (HL.out.own) (ins_lit1 HOK.out) rfl (by rw [HN.out]; omega) HL.out.size ?_; intro v1 w1 ho1 hg1; obtain ⟨y0, y1⟩ := HL.out.put0 hg1; obtain ⟨A1, c1, e1, -, -⟩ := ho1.form; generalize (l ++ [(⟨op, a, b, im⟩ : Ins)]).length = m at e1; subst e1; have HP := Lib.hid (HL.out.put hg1 ho1)))
 go_end0
 exact ⟨rfl, HBL.out.trans HP.out.2, _, HP.out.1⟩
set_option maxRecDepth 100000 in
set_option maxHeartbeats 1000000 in
theorem cg_fresh {base B : Nat} {nv : List Value} {X : List (Nat × Obj)} {w : World} {v : Value} {l : List Ins} {last : Int} (h : GenAt base B 86 (genR nv last) X w v l) (hnv : nv.length = 12) (hla : 0 ≤ last ∧ last ≤ 6) :
  Calls Tryd.prog 68 #[.pointer (some ⟨B, 0, none⟩)] w (RetGenI base B 86 (genR nv (nextR last)) X w (nextR last) l) := by
 have x0 : w.cell? ⟨B, 13, none⟩ = some (.int .i64 last) := by rw [cell_heap h.heap, List.getElem?_toArray, List.getElem?_cons_succ]; exact genR_get hnv
 have f0 : w.frozen? ⟨B, 13, none⟩ = false := frozen_heap h.heap
 have h1 := h.set 12 (.int .i64 (last + 1))
 rw [genR_set hnv] at h1
 have h2 := h1.1.set 12 (.int .i64 1)
 rw [genR_set hnv] at h2
 have H1 := Lib.hid h1
 have H2 := Lib.hid h2
 have wk : IntKind.i64.wrap (last + 1) = last + 1 := IntWalk.i64_in _ (by omega)
 clear h h1 h2
 by_cases h7 : 7 ≤ last + 1
 ·have e7 : nextR last = 1 := if_pos h7
  rw [e7]
  go_enter Tryd.func68, Tryd.ntmps68
  go_wp2_with fail
  go_ret
  exact ⟨rfl, H1.out.2.trans H2.out.2, _, H2.out.1⟩
 ·have e7 : nextR last = last + 1 := if_neg h7
  rw [e7]
  go_enter Tryd.func68, Tryd.ntmps68
  go_wp2_with fail
  go_ret
  exact ⟨rfl, H1.out.2, _, H1.out.1⟩
set_option maxRecDepth 100000 in
set_option maxHeartbeats 1000000 in
theorem cg_fetch {base B : Nat} {nv : List Value} {X : List (Nat × Obj)} {w : World} {v : Value} {l : List Ins} {last val : Int} (h : GenAt base B 86 (genR nv last) X w v l) (hnv : nv.length = 12) (hla : 0 ≤ last ∧ last ≤ 6) (hv : 0 ≤ val ∧ val ≤ 1000000) (hl : l.length < 1000000) :
  Calls Tryd.prog 37 #[.pointer (some ⟨B, 0, none⟩), .int .i64 val] w (RetGenI base B 86 (genR nv (fetchL val last)) X w (fetchR val last) (l ++ fetchI val last)) := by
 have HG := Lib.hid h
 clear h
 by_cases h0 : val = 0
 ·subst h0
  go_enter Tryd.func37, Tryd.ntmps37
  go_wp2_with fail
  go_ret
  exact ⟨rfl, Below.refl _ _, _, by rw [show fetchI 0 last = [] from rfl, List.append_nil]; exact HG.out⟩
 ·have e1 : fetchL val last = nextR last := if_neg h0
  have e2 : fetchR val last = nextR last := if_neg h0
  have e3 : fetchI val last = [⟨6, nextR last, val - 1, 0⟩] := if_neg h0
  rw [e1, e2, e3]
  have hn := nextR_in hla.1
  generalize hnr : nextR last = r at hn ⊢
  have HNR := Lib.hid hnr
  have wk : IntKind.i64.wrap (val - 1) = val - 1 := IntWalk.i64_in _ (by omega)
  clear hnr e1 e2 e3
  go_enter Tryd.func37, Tryd.ntmps37
  go_wp2_with (first
   | (go_at_call 68; (with_reducible refine (cg_fresh HG.out hnv hla).mono ?_); rw [HNR.out]; rintro e w1 ⟨rfl, hb1, v1, hg1⟩; have HG1 := Lib.hid hg1; have HB1 := Lib.hid hb1; clear hg1 hb1)
   | (go_at_call 35; (with_reducible refine (cg_emit 6 r (val - 1) 0 HG1.out (ok_small (by omega) (by omega) (by omega) (by omega)) hl).mono ?_); rintro e w2 ⟨rfl, hb2, v2, hg2⟩; have HG2 := Lib.hid hg2; have HB2 := Lib.hid hb2; clear hg2 hb2))
  go_ret
  exact ⟨rfl, HB1.out.trans HB2.out, _, HG2.out⟩
end Go.Proofs.YtdiflpbioohddaaDoor
end
