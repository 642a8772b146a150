/- What the laid variables give the walks that read texts; texts and bytes as arguments; a wrap that hands on both the laid variables and the world's shape. -/
import Derived.Test.YtpdpcgeeneajjaaDoorsOftoOw
import Derived.Test.YtpdpcgeeneajjaaDoorsL3toRq
import Derived.Test.YtpdpcgeeneajjaaDoorsRz
import Derived.HandedShaped
import Derived.Shelf.Vars
import Derived.ChangeMaps5
import GoSem.PinnedTables
set_option linter.unusedVariables false
set_option linter.unusedSimpArgs false
set_option maxRecDepth 100000
namespace Go.Proofs.YtpdpcgeeneajjaaDoor
open Go.Joins Go.ChangeShapes Go.WideShapes Go.RowKit Go.Deep
def firstObj : Obj → Obj
  | .cells _ t f => .cells (Go.Pinned.utf8FirstZ.map fun n => Value.int .u8 (Int.ofNat n)).toArray t f
  | o => o
theorem handed_both {H : Type} {enc : TypeId × Value → H} {a : Assume} {C : Checked} {os : Os} {f : FuncId} {fn : Func} {s : ChangeSpec} {conds : List PathCond} {apart fresh handsOn again : Bool} {X : World → Array Value → Prop}
    (hX : ∀ (w w' : World) (args : Array Value), w.heap = w'.heap → X w args → X w' args)
    (own : ownKnob C.prog.godebug = none) (started : os.Started) (noInit : C.prog.inits.idxOf? f = none) (hfn : C.prog.funcs[f]? = some fn)
    (witness : ∃ (w : World) (tape : Tape) (i : Input), w.os = os ∧ (w.forCall tape i).Shaped C.prog ∧ i.vars = [] ∧ Input.okWide C.prog (w.forCall tape i) .any w.heap.size f i ∧
      ((s.pre enc C.prog fn conds apart (w.forCall tape i).memory i.args ∧ X (w.forCall tape i).memory i.args) ∧ sizedMet enc C.prog fn (OpenSpec.ofChange s) apart (w.forCall tape i).memory i.args) ∧ a.holds C.prog (lone (Frame.enter C.prog f i.args .normal) [] (w.forCall tape i)))
    (contract : ∀ (W : World) (base : Nat) (args : Array Value) (ds gs : List (DataW H)) (before : List MemPlace),
      (∀ (j : Nat) t v, fn.params[j]? = some t → args[j]? = some v → Value.okWide C.prog W .any base t v) →
      DataW.Whole enc C.prog fn.params.toList s.vars apart W args.toList ds gs before → X W args → W.ShapedOpen C.prog →
      Calls C.prog f args W fun e W' => ∃ v, e = .returned v ∧ s.post enc C.prog fn apart fresh handsOn again W args v W') :
    ReturnsInHanded a C os f .any (fun w args => (s.pre enc C.prog fn conds apart w args ∧ X w args) ∧ sizedMet enc C.prog fn (OpenSpec.ofChange s) apart w args) (s.post enc C.prog fn apart fresh handsOn again) := by
  refine returnsInHanded_of_calls own started noInit witness ?_
  intro w tape i _ hsh _ hok hpre hholds
  obtain ⟨_, _, _, fn', hfn', _, _, _, _, hval⟩ := hok
  have e : fn' = fn := Option.some.inj (hfn'.symm.trans hfn)
  subst e
  obtain ⟨⟨⟨ds, gs, before, hw, hc⟩, hx⟩, hz⟩ := hpre
  have hw' := DataW.Whole.of_heap (w' := w.forCall tape i) (by rfl) hw
  refine (contract (w.forCall tape i) w.heap.size i.args ds gs before hval hw' (hX _ _ _ (by rfl) hx) hsh).mono fun e W' ⟨v, he, hp⟩ => ?_
  subst he
  exact ChangeSpec.post_blind hp
theorem starE : "*" ++ "errors.errorString" = "*errors.errorString" := by decide
theorem rowE (u : TypeId) (h : Tryd.prog.typeName? 3 u = some "*errors.errorString") : u = 146 :=
  typeName_ptr_named (nm := "errors.errorString") (by rw [starE]; kernel_rfl) (by kernel_rfl) (by decide) u (by rw [starE]; exact h)
theorem gSyn : Tryd.prog.globalNamed "strconv.ErrSyntax" = some 2 := by kernel_rfl
theorem gRng : Tryd.prog.globalNamed "strconv.ErrRange" = some 3 := by kernel_rfl
theorem gSynT : (Tryd.prog.globals[2]?).map (·.type) = some 76 := by kernel_rfl
theorem gRngT : (Tryd.prog.globals[3]?).map (·.type) = some 76 := by kernel_rfl
theorem cellsE : Tryd.prog.cellsOf 148 = 1 := by kernel_rfl
theorem cellsS : Tryd.prog.cellsOf 9 = 1 := by kernel_rfl
theorem rdAt_of_laid {W : World} {d1 d2 d3 d4 d7 d8 : DataW Unit} {tr ts : List UInt8}
    (hh : ([("math/bits.deBruijn32tab", d1), ("math/bits.deBruijn64tab", d2), ("internal/strconv.uint64pow10", d3), ("unicode/utf8.acceptRanges", d4), ("strconv.ErrRange", .iface "*errors.errorString" (.ptr (.agg [.lit (.string tr)]))), ("strconv.ErrSyntax", .iface "*errors.errorString" (.ptr (.agg [.lit (.string ts)]))), ("dspcompiler/processor.forms", d7), ("unicode/utf8.first", d8)].all fun x => x.2.handleName?.isNone) = true)
    (hd3 : d3 = Lib.tabData .u64 Lib.pow10Tab)
    (hfm : ∀ r, laidMet Tryd.prog (("dspcompiler/processor.forms", d7) :: r) W → FormsAt W ∧ ∀ k, k < 12 → ∃ s : ByteArray, W.cell? ⟨0, k * 4, none⟩ = some (.string s) ∧ s.data.toList = (opWord k).map UInt8.ofNat)
    (h : laidMetH Tryd.prog [("math/bits.deBruijn32tab", d1), ("math/bits.deBruijn64tab", d2), ("internal/strconv.uint64pow10", d3), ("unicode/utf8.acceptRanges", d4), ("strconv.ErrRange", .iface "*errors.errorString" (.ptr (.agg [.lit (.string tr)]))), ("strconv.ErrSyntax", .iface "*errors.errorString" (.ptr (.agg [.lit (.string ts)]))), ("dspcompiler/processor.forms", d7), ("unicode/utf8.first", d8)] W)
    (hs : W.ShapedOpen Tryd.prog) : RdAt W := by
  rw [MakeChecks.laidMetH_plain _ _ _ hh] at h
  obtain ⟨g, hg, hty⟩ := tTab
  have ht := h.tail.tail
  rw [hd3] at ht
  have htab := Lib.tabIs_of_head hg hty Tryd.underlying150 Tryd.underlying128 (by kernel_rfl) (by kernel_rfl) ht
  obtain ⟨hf, hw⟩ := hfm _ h.tail.tail.tail.tail.tail.tail
  obtain ⟨a1, s1, hv1, -⟩ := laid_sentinel h.tail.tail.tail.tail gRng gRngT Tryd.underlying76 rowE Tryd.underlying146 Tryd.underlying148 rfl rfl Tryd.underlying9 cellsE cellsS
  obtain ⟨a2, s2, hv2, -⟩ := laid_sentinel h.tail.tail.tail.tail.tail gSyn gSynT Tryd.underlying76 rowE Tryd.underlying146 Tryd.underlying148 rfl rfl Tryd.underlying9 cellsE cellsS
  obtain ⟨m, hm⟩ := cell_of_shapedOpen_int (P := Tryd.prog) (g := 1) (t := 3) (zero := #[.int .i64 0]) hs (of_decide_eq_true (by kernel_rfl)) (by kernel_rfl) rfl (by kernel_rfl) (by kernel_rfl) Tryd.underlying3
  exact ⟨⟨hf, fun k hk => by obtain ⟨s, e1, e2⟩ := hw k hk; rw [e1, opStr_word hk e2], htab⟩, ⟨m, hm⟩, ⟨_, _, by simpa using World.var?_cell gSyn hv2 0⟩, ⟨_, _, by simpa using World.var?_cell gRng hv1 0⟩⟩
theorem open_Str {H : Type} {enc : TypeId × Value → H} {w : World} {base : Nat} {r : Reach} {b0 : Nat} {v : Value} {d : DataW H} {p : List MemPlace}
    (hv : Value.okWide Tryd.prog w r b0 9 v) (h : DataW.Trod enc Tryd.prog w base (fun _ => true) true 9 v d p) :
    ∃ l : List UInt8, v = .string (str l) ∧ l.length ≤ 9223372036854775807 := by
  obtain ⟨s, e, -, -, hm⟩ := Go.ChangeMaps.open_string Tryd.underlying9 hv h
  refine ⟨s.data.toList, by rw [e]; exact congrArg Value.string (str_eq rfl), ?_⟩
  unfold maxLen at hm
  have : s.data.toList.length = s.size := rfl
  omega
theorem open_Bytes {H : Type} {enc : TypeId × Value → H} {w : World} {base : Nat} {r : Reach} {b0 : Nat} {v : Value} {d : DataW H} {p : List MemPlace}
    (hv : Value.okWide Tryd.prog w r b0 22 v) (h : DataW.Trod enc Tryd.prog w base (fun _ => true) true 22 v d p) :
    ∃ u : Option Addr × Nat × List Int, v = .slice u.1 u.2.2.length u.2.1 ∧ (BytesAt w u.1 u.2.2 ∧ u.2.2.length ≤ u.2.1 ∧ u.2.2.length ≤ 9223372036854775807) := by
  obtain ⟨A, len, cap, rfl⟩ := okWide_slice Tryd.underlying22 hv
  obtain ⟨fuel, hf⟩ := h
  rcases open_ints Tryd.underlying22 Tryd.underlying5 (by kernel_rfl) hf with ⟨hcs, _⟩ | ⟨x, l, c, zs, hcs, _, hl, hm, hz, _, hcell, hwz⟩
  · simp [Value.cells] at hcs
    obtain ⟨rfl, rfl, rfl⟩ := hcs
    exact ⟨⟨none, 0, []⟩, rfl, fun k x hk => by simp at hk, by simp, by simp⟩
  · simp [Value.cells] at hcs
    obtain ⟨rfl, rfl, rfl⟩ := hcs
    have hlz : len ≤ zs.length := by rw [hz]; split <;> omega
    have hlen : (zs.take len).length = len := by simp; omega
    refine ⟨⟨some x, cap, zs.take len⟩, by rw [hlen], fun k v hx => ?_, by rw [hlen]; exact hl, by rw [hlen]; unfold maxLen at hm; omega⟩
    have hkl : k < len := by
      have h1 := (List.getElem?_eq_some_iff.1 hx).1
      have h2 : (zs.take len).length = len := hlen
      exact Nat.lt_of_lt_of_le h1 (Nat.le_of_eq h2)
    have hmem := List.mem_of_getElem? hx
    rw [List.getElem?_take_of_lt hkl] at hx
    have hc := hcell k (by omega)
    rw [List.getD_eq_getElem?_getD, hx] at hc
    have hb := cell_lt hc
    rw [block_add] at hb
    have hw := hwz v (List.mem_of_mem_take hmem)
    refine ⟨⟨x, rfl, hc, hb⟩, ?_⟩
    have h3 : (0 : Int) ≤ v ∧ v ≤ 255 := by simpa [Lit.wf, IntKind.min, IntKind.max, IntKind.signed, IntKind.bits] using hw
    omega
end Go.Proofs.YtpdpcgeeneajjaaDoor
