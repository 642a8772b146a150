/- Several texts in one: Ya Yb. -/
import Derived.Test.YtgabfdappeakiaaY5
import Derived.Test.YtgabfdappeakiaaY6
section
/- Plain: samples that come in parts (for the law StreamDivides). -/
set_option linter.unusedVariables false
set_option linter.unusedSimpArgs false
namespace Go.Proofs.Ytgabfdappeakiaa
open Go.RowKit

theorem step_nil {d : StrD} (hg : d.Good) : d.step [] 0 = d := by
  obtain ⟨net, old, s, f, fade, left, ev⟩ := d
  by_cases h : 0 < left
  · rw [step_on (show ((0 : Nat) : Int) < (StrD.mk net old s f fade left ev).left from h)]
    show StrD.mk net old s f fade (left - ((0 : Nat) : Int)) ev = _
    rw [show left - ((0 : Nat) : Int) = left by omega]
  · rw [step_off (show ¬ ((0 : Nat) : Int) < (StrD.mk net old s f fade left ev).left from h)]
    obtain ⟨-, -, -, -, ⟨h0, -⟩, hz | hz⟩ := hg
    · obtain ⟨e1, e2, e3, e4⟩ := hz
      have e3 := NetD.isZero_iff.1 e3
      obtain rfl : left = 0 := e1
      obtain rfl : fade = 0 := e2
      obtain rfl : old = NetD.zero := e3
      obtain rfl : f = [] := List.length_eq_zero_iff.1 e4
      rfl
    · have h0 : 0 ≤ left := h0
      have := hz.1
      exact absurd (show left = 0 by omega) this
/-- The events of a list of parts, and the parts as one. -/
def evsOf (ps : List (Option Addr × List Int × Nat)) : List EvA := ps.map fun p => evS p.1 p.2.1 p.2.2
def flatP (ps : List (Option Addr × List Int × Nat)) : List Int := ps.flatMap fun p => p.2.1
theorem play_cuts : ∀ (ps : List (Option Addr × List Int × Nat)) (d : StrD), d.Good → d.net.fit (flatP ps) = true → (flatP ps).length ≤ 4096 → d.ev + ps.length < 1099511627776 →
    playE d (evsOf ps) = 0 ∧ playO d (evsOf ps) = d.outS (flatP ps) (flatP ps).length ∧ playD d (evsOf ps) = { d.step (flatP ps) (flatP ps).length with ev := d.ev + ps.length }
  | [], d, hg, _, _, _ => by
    refine ⟨rfl, rfl, ?_⟩
    show d = { d.step [] 0 with ev := d.ev + ((0 : Nat) : Int) }
    rw [step_nil hg, show d.ev + ((0 : Nat) : Int) = d.ev by omega]
  | p :: ps, d, hg, hf, hl, he => by
    have hfl : flatP (p :: ps) = p.2.1 ++ flatP ps := rfl
    rw [hfl] at hf hl ⊢
    rw [List.length_append] at hl
    have hff : d.net.fit p.2.1 = true ∧ d.net.fit (flatP ps) = true := by
      unfold NetD.fit at hf ⊢
      rw [List.all_append, Bool.and_eq_true] at hf
      exact hf
    have hlen : ((p :: ps).length : Int) = ps.length + 1 := by simp
    rw [hlen] at he
    obtain ⟨a1, a2, a3⟩ := feed_sam (A := p.1) (c := p.2.2) hg hff.1 (by omega)
    have hev : (d.step p.2.1 p.2.1.length).ev = d.ev := by
      by_cases h : (p.2.1.length : Int) < d.left
      · rw [step_on h]
      · rw [step_off h]
    have hg2 : (d.feedD (evS p.1 p.2.1 p.2.2)).Good := by
      rw [a2]; exact bump_good (step_good hg hff.1 (Nat.le_refl _)) (by rw [hev]; omega)
    have hn2 : (d.feedD (evS p.1 p.2.1 p.2.2)).net = d.net := by rw [a2]; exact step_net _ _ _
    have he2 : (d.feedD (evS p.1 p.2.1 p.2.2)).ev = d.ev + 1 := by rw [a2]; show (d.step p.2.1 p.2.1.length).ev + 1 = _; rw [hev]
    obtain ⟨b1, b2, b3⟩ := play_cuts ps (d.feedD (evS p.1 p.2.1 p.2.2)) hg2 (by rw [hn2]; exact hff.2) (by omega) (by rw [he2]; omega)
    refine ⟨?_, ?_, ?_⟩
    · show (if d.feedE (evS p.1 p.2.1 p.2.2) = 0 then playE (d.feedD (evS p.1 p.2.1 p.2.2)) (evsOf ps) else _) = 0
      rw [if_pos a1, b1]
    · show d.feedO (evS p.1 p.2.1 p.2.2) ++ playO (d.feedD (evS p.1 p.2.1 p.2.2)) (evsOf ps) = _
      rw [a3, b2, a2, outS_bump, List.length_append, outS_right]
    · show playD (d.feedD (evS p.1 p.2.1 p.2.2)) (evsOf ps) = _
      rw [b3, he2, a2, step_bump, List.length_append, step_right, hlen]
      rw [show d.ev + 1 + (ps.length : Int) = d.ev + (ps.length + 1) by omega]
/-- A change, then samples in one part or in several: the same outputs, and the same stream but for the count of events. -/
theorem div2 {n m : NetD} {x : List Int} {B NA XA : Option Addr} {b nc xc : Nat} {f : Int} {ps : List (Option Addr × List Int × Nat)} (hn : n.ok = true) (hm : m.ok = true) (hs : m.same n = true) (hx : m.fit x = true) (hxl : x.length ≤ 4096) (h0 : 0 ≤ f) (h1 : f ≤ 4096) (hp : flatP ps = x) (hpl : ps.length ≤ 4096) :
    playE (openD n) [evC m NA nc XA xc f, evS B x b] = 0 ∧ playE (openD n) (evC m NA nc XA xc f :: evsOf ps) = 0 ∧
    playO (openD n) (evC m NA nc XA xc f :: evsOf ps) = playO (openD n) [evC m NA nc XA xc f, evS B x b] ∧
    { playD (openD n) (evC m NA nc XA xc f :: evsOf ps) with ev := 0 } = { playD (openD n) [evC m NA nc XA xc f, evS B x b] with ev := 0 } := by
  obtain ⟨b1, b2, b3⟩ := feed_chg (d := openD n) (m := m) (NA := NA) (XA := XA) (nc := nc) (xc := xc) (f := f) (openD_good hn) rfl hm hs h0 h1
  have hg : ((openD n).feedD (evC m NA nc XA xc f)).Good := feedD_good b1 (show (0 : Int) < 1099511627776 by decide)
  have hnet : ((openD n).feedD (evC m NA nc XA xc f)).net = m := by rw [b2]; rfl
  have hev : ((openD n).feedD (evC m NA nc XA xc f)).ev = 1 := by rw [b2]; rfl
  have hf1 : flatP [(B, x, b)] = x := List.append_nil x
  obtain ⟨c1, c2, c3⟩ := play_cuts ps _ hg (by rw [hnet, hp]; exact hx) (by rw [hp]; exact hxl) (by rw [hev]; omega)
  obtain ⟨d1, d2, d3⟩ := play_cuts [(B, x, b)] _ hg (by rw [hnet, hf1]; exact hx) (by rw [hf1]; exact hxl) (by rw [hev]; simp)
  rw [hp] at c2 c3
  rw [hf1] at d2 d3
  refine ⟨?_, ?_, ?_, ?_⟩
  · show (if (openD n).feedE (evC m NA nc XA xc f) = 0 then playE ((openD n).feedD (evC m NA nc XA xc f)) (evsOf [(B, x, b)]) else _) = 0
    rw [if_pos b1, d1]
  · show (if (openD n).feedE (evC m NA nc XA xc f) = 0 then playE ((openD n).feedD (evC m NA nc XA xc f)) (evsOf ps) else _) = 0
    rw [if_pos b1, c1]
  · show (openD n).feedO (evC m NA nc XA xc f) ++ playO ((openD n).feedD (evC m NA nc XA xc f)) (evsOf ps) = (openD n).feedO (evC m NA nc XA xc f) ++ playO ((openD n).feedD (evC m NA nc XA xc f)) (evsOf [(B, x, b)])
    rw [c2, d2]
  · show { playD ((openD n).feedD (evC m NA nc XA xc f)) (evsOf ps) with ev := 0 } = { playD ((openD n).feedD (evC m NA nc XA xc f)) (evsOf [(B, x, b)]) with ev := 0 }
    rw [c3, d3]
end Go.Proofs.Ytgabfdappeakiaa
end
section
/- Rows of events of the call's own. -/
set_option linter.unusedVariables false
set_option linter.unusedSimpArgs false
namespace Go.Proofs.Ytgabfdappeakiaa
open Go.RowKit

theorem flatV_get {α : Type} {enc : α → List Value} {sz : Nat} (he : ∀ x, (enc x).length = sz) : ∀ (xs : List α) (k j : Nat) (x : α), xs[k]? = some x → j < sz → (xs.flatMap enc)[k * sz + j]? = (enc x)[j]?
  | [], k, j, x, h, _ => by simp at h
  | a :: l, 0, j, x, h, hj => by
    simp only [List.getElem?_cons_zero, Option.some.injEq] at h
    subst h
    rw [List.flatMap_cons, Nat.zero_mul, Nat.zero_add, List.getElem?_append_left (by rw [he]; exact hj)]
  | a :: l, k + 1, j, x, h, hj => by
    simp only [List.getElem?_cons_succ] at h
    rw [List.flatMap_cons, List.getElem?_append_right (by rw [he]; rw [Nat.add_mul]; omega), he, show (k + 1) * sz + j - sz = k * sz + j by rw [Nat.add_mul]; omega]
    exact flatV_get he l k j x h hj
theorem evc_len (e : EvA) : e.cells.length = 15 := rfl
theorem evc_all (e : EvA) : e.cells.all (·.oneCell') = true := rfl
theorem info_evz : (Try.prog.info? 33).map (fun i => (i.zero, i.size, i.bytes)) = some (some (.agg #[.int .i64 0, .slice none 0 0, .int .i64 0, .int .i64 0, .int .i64 0, .int .i64 0, .int .i64 0, .int .i64 0, .int .i64 0, .int .i64 0, .int .i64 0, .slice none 0 0, .slice none 0 0, .int .i64 0, .int .i64 0]), 15, 168) := by kernel_rfl
/-- v is a slice of events of the call's own whose cells are those of es. -/
def OwnEv (base : Nat) (w : World) (v : Value) (es : List EvA) : Prop := w.ownsRow base 33 15 v es.length (es.flatMap EvA.cells)
theorem OwnEv.grow {base : Nat} {w w' : World} {v : Value} {es : List EvA} (h : OwnEv base w v es) (hb : Below w.heap.size w w') : OwnEv base w' v es := own_grow h hb
theorem OwnEv.form {base : Nat} {w : World} {v : Value} {es : List EvA} (h : OwnEv base w v es) (he : ∀ e ∈ es, EvAt w e) : ∃ A c, v = .slice A es.length c ∧ EvsAt w A es := by
  obtain ⟨A, c, rfl, hc⟩ := own_form h
  refine ⟨A, c, rfl, fun k e hk => ?_⟩
  have hcell : ∀ j, j < 15 → ∃ g, A = some ⟨g, 0, none⟩ ∧ g < w.heap.size ∧ w.cell? ⟨g, k * 15 + j, none⟩ = e.cells[j]? := fun j hj => by
    have hx : (es.flatMap EvA.cells)[k * 15 + j]? = e.cells[j]? := flatV_get evc_len es k j e hk hj
    obtain ⟨g, e1, h1, h2⟩ := own_cells h (k := k * 15 + j) (v := e.cells[j]'(by rw [evc_len]; exact hj)) (by rw [hx]; exact List.getElem?_eq_getElem _)
    exact ⟨g, e1, h1, by rw [h2]; exact (List.getElem?_eq_getElem _).symm⟩
  obtain ⟨g, e0, hg, -⟩ := hcell 0 (by decide)
  refine ⟨⟨g, 0, none⟩, e0, rfl, hg, fun j v hj => ?_, he e (List.mem_of_getElem? hk)⟩
  have hj15 : j < 15 := by have := (List.getElem?_eq_some_iff.1 hj).1; rwa [evc_len] at this
  obtain ⟨g', e1, -, h2⟩ := hcell j hj15
  rw [e0] at e1
  injection e1 with e1; injection e1 with e1
  subst e1
  rw [hj] at h2
  show w.cell? ⟨g, 0 + k * 15 + j, none⟩ = some v
  rw [Nat.zero_add]; exact h2
/-- append(v, e) for one event. -/
theorem app_ev {ops : Array Oper} {rest : List Oper} {o : Oper} {a : Act} {Q : Exit → Act → World → Prop} (w : World) (hg : o.guard = none) (s x : Operand) (ho : o.op = .call { callee := .builtin .append, args := #[s, x], argTypes := #[36, 36] })
    (base : Nat) {v : Value} {es : List EvA} {e : EvA} {q c : Nat} (hs : a.eval s = v) (hx : a.eval x = .slice (some ⟨q, 0, none⟩) 1 c) (hown : OwnEv base w v es) (hb : Box w q e.cells) (hn : es.length + 1 ≤ 100000000) (hbase : base ≤ w.heap.size)
    (h : ∀ v' w', OwnEv base w' v' (es ++ [e]) → w.grownBy w' v.ownBlock → (v'.ownBlock = v.ownBlock ∨ v'.ownBlock = some w.heap.size) → wpList Try.prog ops Q rest (a.put o.dst v') w') : wpList Try.prog ops Q (o :: rest) a w := by
  refine app_row w hg s x 36 33 (.agg #[.int .i64 0, .slice none 0 0, .int .i64 0, .int .i64 0, .int .i64 0, .int .i64 0, .int .i64 0, .int .i64 0, .int .i64 0, .int .i64 0, .int .i64 0, .slice none 0 0, .slice none 0 0, .int .i64 0, .int .i64 0]) 15 168 ho Try.underlying36 info_evz rfl (by decide) (by decide) base hs hx hown (ys := e.cells) (by rw [evc_len]) (fun j u hj => ⟨_, rfl, ?_⟩) (fun u hu => List.all_eq_true.1 (evc_all e) u hu) hn hbase fun v' w' h1 h2 h3 => h v' w' ?_ h2 h3
  · rw [add_cellsB]; exact (hb.2.1 j).trans hj
  · show w'.ownsRow _ _ _ _ _ _
    rw [List.flatMap_append, List.length_append, List.flatMap_cons, List.flatMap_nil, List.append_nil]
    exact h1
theorem evsL_at {w : World} {es : List EvA} (h : ∀ e ∈ es, EvAt w e) : EvsAt (w.alloc (.cells (es.flatMap EvA.cells).toArray 33)) (some ⟨w.heap.size, 0, none⟩) es := by
  have hb := (Below.refl w.heap.size w).alloc (Nat.le_refl _) (.cells (es.flatMap EvA.cells).toArray 33)
  have hB : Box (w.alloc (.cells (es.flatMap EvA.cells).toArray 33)) w.heap.size (es.flatMap EvA.cells) := Box.new rfl
  intro k e hk
  refine ⟨_, rfl, rfl, hB.1, fun j v hj => ?_, (h e (List.mem_of_getElem? hk)).grow hb⟩
  have hj15 : j < 15 := by have := (List.getElem?_eq_some_iff.1 hj).1; rwa [evc_len] at this
  refine (hB.2.1 _).trans ?_
  show (es.flatMap EvA.cells)[0 + k * 15 + j]? = some v
  rw [Nat.zero_add, flatV_get evc_len es k j e hk hj15]; exact hj
theorem built_ev2 (e0 e1 : EvA) : builtS Try.prog 33 2 [(0, e0.v), (1, e1.v)] = some (([e0, e1].flatMap EvA.cells).toArray) := by kernel_rfl
theorem built_ev1 (e0 : EvA) : builtS Try.prog 33 1 [(0, e0.v)] = some (([e0].flatMap EvA.cells).toArray) := by kernel_rfl
theorem own_ev1 (w : World) (e : EvA) : OwnEv w.heap.size (w.alloc (.cells ([e].flatMap EvA.cells).toArray 33)) (.slice (some ⟨w.heap.size, 0, none⟩) 1 1) [e] :=
  World.ownsRow_lit w ([e].flatMap EvA.cells).toArray 1 (Nat.le_refl _) (by unfold maxLen; omega) (by simp [evc_len])
theorem ld_evB {ops : Array Oper} {rest : List Oper} {o : Oper} {a : Act} {Q : Exit → Act → World → Prop} {w : World} {e : EvA} {g : Nat} (hb : EvBox w g e) (hgd : o.guard = none) (x : Operand) (ho : o.op = .load 33 x) (hx : a.eval x = .pointer (some ⟨g, 0, none⟩)) (h : wpList Try.prog ops Q rest (a.put o.dst e.v) w) : wpList Try.prog ops Q (o :: rest) a w := by
  obtain ⟨d, h1, h2⟩ := row_ev
  exact wp_ld hgd _ x ho g 0 hx hb e.cells (fun j v hj => by rw [Nat.zero_add]; exact hj) d h1 h2 size_ev h
end Go.Proofs.Ytgabfdappeakiaa
end
