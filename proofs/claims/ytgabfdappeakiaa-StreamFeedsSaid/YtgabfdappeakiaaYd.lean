/- The walk of the law StreamDivides. -/
import Derived.Test.YtgabfdappeakiaaY9
import Derived.Test.YtgabfdappeakiaaPw
import Derived.Test.YtgabfdappeakiaaPz
import Derived.Test.YtgabfdappeakiaaTs
set_option linter.unusedVariables false
set_option linter.unusedSimpArgs false
namespace Go.Proofs.Ytgabfdappeakiaa
open Go.RowKit

/-- A new block of an event. -/
def NewE (B : World) (v : Value) (w : World) : Prop := ∃ g, v = .pointer (some ⟨g, 0, none⟩) ∧ EvBox w g EvA.zero ∧ B.heap.size ≤ g
theorem NewE.keep {B : World} {v : Value} {a b : World} (h : NewE B v a) (hb : Below a.heap.size a b) : NewE B v b := by
  obtain ⟨g, e, h1, h2⟩ := h
  exact ⟨g, e, Box.keep h1 hb, h2⟩
/-- The length of a slice. -/
def lnOf : Value → Nat | .slice _ n _ => n | _ => 0
theorem part_le : ∀ (ps : List (Option Addr × List Int × Nat)) (p : Option Addr × List Int × Nat), p ∈ ps → p.2.1.length ≤ (flatP ps).length
  | a :: l, p, h => by
    have e : flatP (a :: l) = a.2.1 ++ flatP l := rfl
    rw [e, List.length_append]
    rcases List.mem_cons.1 h with rfl | h
    · omega
    · have := part_le l p h; omega
theorem feedD_ev {d : StrD} {e : EvA} (h : d.feedE e = 0) : (d.feedD e).ev = d.ev + 1 := by
  obtain ⟨-, -, he⟩ := feedS_good h
  unfold StrD.feedD
  rw [if_pos h]
  show (d.feedS e).ev + 1 = _
  rw [he]
theorem play_good : ∀ (es : List EvA) (d : StrD), d.Good → playE d es = 0 → d.ev + es.length ≤ 1099511627776 → (playD d es).Good
  | [], d, hg, _, _ => hg
  | e :: es, d, hg, h, hl => by
    have h : (if d.feedE e = 0 then playE (d.feedD e) es else d.feedE e) = 0 := h
    have hl : d.ev + ((es.length + 1 : Nat) : Int) ≤ 1099511627776 := hl
    by_cases h0 : d.feedE e = 0
    · rw [if_pos h0] at h
      exact play_good es _ (feedD_good h0 (by omega)) h (by rw [feedD_ev h0]; omega)
    · rw [if_neg h0] at h; exact absurd h h0
/-- The store of one cell into a box. -/
theorem wp_st1 {ops : Array Oper} {rest : List Oper} {o : Oper} {a : Act} {Q : Exit → Act → World → Prop} {w : World} (hgd : o.guard = none) (ty : TypeId) (x y : Operand) (ho : o.op = .store ty x y) (g k : Nat) (v : Value) (hx : a.eval x = .pointer (some ⟨g, k, none⟩)) (hy : a.eval y = v)
    (hi : (Try.prog.info? ty).map (·.size) = some 1) (hc : v.cells = #[v]) (h1 : v.oneCell' = true) {vs vs' : List Value} (hb : Box w g vs) (hk : k < vs.length) (e : vs.set k v = vs')
    (h : ∀ W1, Box W1 g vs' → w.grownBy W1 (some g) → wpList Try.prog ops Q rest (a.put o.dst undef) W1) : wpList Try.prog ops Q (o :: rest) a w := by
  refine wpList_plain hgd fun _ hK => ?_
  obtain ⟨B, G⟩ := box_one hb hk e
  unfold Oper.wp execOp
  have ht : w.there g k 1 := hb.there (by omega)
  have := run_storeCells_cells (P := Try.prog) g k [v] 0 w (fun j hj => by simpa using (ht j (by simpa using hj)).1) (fun j hj => by simpa using (ht j (by simpa using hj)).2) (fun u hu => by rw [List.mem_singleton.1 hu]; exact h1)
  have hrun : (storeVar ty ⟨g, k, none⟩ v).run Try.prog w = .ok () (w.setCell ⟨g, k, none⟩ v) := by
    cases hq : Try.prog.info? ty with
    | none => simp [hq] at hi
    | some i =>
      have hs : i.size = 1 := by simpa [hq] using hi
      simp only [Nat.add_zero] at this
      simp [storeVar, sizeOf, typeInfo, hq, hc, hs, this, World.setCells]
  simp only [ho, hx, hy, Instr.storeAt, Instr.sureAddr, Sem.run_bind, Sem.run_pure, Result.andThen_ok, hrun]
  exact hK _ _ (h _ B G)
theorem ld_strW {ops : Array Oper} {rest : List Oper} {o : Oper} {a : Act} {Q : Exit → Act → World → Prop} {w : World} {u : StrA} {g : Nat} (hb : StrBox w g u) (hw : Region.wanted o (yielded ops a.tmps) = true) (x : Operand) (ho : o.op = .load 39 x) (hx : a.eval x = .pointer (some ⟨g, 0, none⟩)) (h : wpList Try.prog ops Q rest (a.put o.dst u.v) w) : wpList Try.prog ops Q (o :: rest) a w := by
  obtain ⟨d, h1, h2⟩ := row_str
  exact BigFrame.wpList_want hw fun K hK => wp_load_mid _ x ho g 0 hx u.cells d (Box.range hb.box (str_in u)) h1 h2 size_str (hK _ _ h)
def StrA.ev0 (u : StrA) : StrA := { u with d := { u.d with ev := 0 } }
theorem ev0_at {w : World} {u : StrA} (h : StrAt w u) : StrAt w u.ev0 := ⟨h.net, h.old, h.s, h.f, h.n1, h.n2⟩
theorem mid_world {w w1 w2 w3 : World} {q p : Nat} (h : Below w.heap.size w w1) (hq : w1.grownBy w2 (some q)) (hp : w2.grownBy w3 (some p)) (hw : w.heap.size ≤ p) : ∃ W', w.grownBy W' (some q) ∧ Below W'.heap.size W' w3 := by
  have hs : w.heap.size ≤ w3.heap.size := Nat.le_trans h.size (Nat.le_trans hq.size hp.size)
  have hx : (w3.heap.extract 0 w.heap.size).size = w.heap.size := by simp; omega
  refine ⟨{ w3 with heap := w3.heap.extract 0 w.heap.size }, ⟨hp.os.trans (hq.os.trans h.os), hp.tape.trans (hq.tape.trans h.tape), hp.output.trans (hq.output.trans h.output), Nat.le_of_eq hx.symm, fun k hk hn => ?_⟩, ⟨rfl, rfl, rfl, ?_, fun k hk => ?_⟩⟩
  · show (w3.heap.extract 0 w.heap.size)[k]? = _
    rw [Array.getElem?_extract, if_pos (by omega), Nat.zero_add]
    have h1 := h.size
    have h2 := hq.size
    exact (hp.block k (by omega) (by intro e; injection e with e; omega)).trans ((hq.block k (by omega) hn).trans (h.block k hk))
  · show (w3.heap.extract 0 w.heap.size).size ≤ _
    omega
  · replace hk : k < (w3.heap.extract 0 w.heap.size).size := hk
    show w3.heap[k]? = (w3.heap.extract 0 w.heap.size)[k]?
    rw [Array.getElem?_extract, if_pos (by omega), Nat.zero_add]
theorem size_int1 : (Try.prog.info? 3).map (·.size) = some 1 := by kernel_rfl
theorem st_ev0 {ops : Array Oper} {rest : List Oper} {o : Oper} {a : Act} {Q : Exit → Act → World → Prop} {w : World} {u : StrA} {g : Nat} (hb : StrBox w g u) (hgd : o.guard = none) (x y : Operand) (ho : o.op = .store 3 x y) (hx : a.eval x = .pointer (some ⟨g, 28, none⟩)) (hy : a.eval y = .int .i64 0)
    (h : ∀ W1, StrBox W1 g u.ev0 → w.grownBy W1 (some g) → wpList Try.prog ops Q rest (a.put o.dst undef) W1) : wpList Try.prog ops Q (o :: rest) a w :=
  wp_st1 hgd _ x y ho g 28 _ hx hy size_int1 rfl rfl hb.box (by show 28 < 29; omega) rfl h
/-- The region that builds the change. -/
def ev6 (B : World) (nv : Value) (fd f : Int) (ev : Value) : Nat → Value → World → Prop
  | 0, v, _ => v = nv | 1, v, _ => v = .int .i64 fd | 2, v, _ => v = .int .i64 f | 3, v, _ => v = ev
  | 4, v, w => NewE B v w
  | _, _, _ => True
theorem ev6_keep {B : World} {nv ev : Value} {fd f : Int} {a b : World} (h : Below a.heap.size a b) : ∀ i v, ev6 B nv fd f ev i v a → ev6 B nv fd f ev i v b
  | 0, _, e => e | 1, _, e => e | 2, _, e => e | 3, _, e => e
  | 4, _, hn => NewE.keep hn h
  | _ + 5, _, _ => trivial
end Go.Proofs.Ytgabfdappeakiaa
