/- Literals of events; a slice literal of events. -/
import Derived.Test.YtgabfdappeakiaaY2
set_option linter.unusedVariables false
set_option linter.unusedSimpArgs false
namespace Go.Proofs.Ytgabfdappeakiaa
open Go.RowKit

def builtS (P : Program) (e : TypeId) (len : Nat) (parts : List (Nat × Value)) : Option (Array Value) :=
  match P.info? e with
  | some ie => match ie.zero with
    | some z => Instr.fill (fun i => some (i * ie.size, ie.size)) ((Array.range (len * ie.size)).map (z.cells[· % z.cells.size]!)) parts
    | none => none
  | none => none
theorem run_bldS {P : Program} (w : World) (t e : TypeId) (len : Nat) (parts : Array (Nat × Value)) (cells : Array Value) (hu : P.underlying t = some (.slice e)) (n : Nat) (hn : (P.info? e).map (·.size) = some n) (hl : len * n ≤ 2 ^ 24) (h0 : len * n ≠ 0) (h : builtS P e len parts.toList = some cells) :
    (Instr.buildSlice t len parts).run P w = .ok (.slice (some ⟨w.heap.size, 0, none⟩) len len) (w.alloc (.cells cells e)) := by
  unfold builtS at h
  cases hi : P.info? e with
  | none => simp [hi] at h
  | some ie =>
    cases hz : ie.zero with
    | none => simp [hi, hz] at h
    | some z =>
      simp only [hi, hz] at h
      have hs : ie.size = n := by simpa [hi] using hn
      subst hs
      have hl' : ¬ (2 ^ 24 < len * ie.size) := by omega
      simp [Instr.buildSlice, run_underlying hu, sizeOf, typeInfo, zeroValue, hi, hz, hl', h0, h]
      simp [go_sem]
/-- The literal of a slice of structs whose cells are reckoned apart. -/
theorem wp_bldS {ops : Array Oper} {rest : List Oper} {o : Oper} {a : Act} {Q : Exit → Act → World → Prop} {w : World} (hgd : o.guard = none) (ty e : TypeId) (len : Nat) (parts : Array (Nat × Operand)) (ho : o.op = .buildSlice ty len parts) (hu : Try.prog.underlying ty = some (.slice e)) (n : Nat) (hn : (Try.prog.info? e).map (·.size) = some n) (hl : len * n ≤ 2 ^ 24) (h0 : len * n ≠ 0)
    (ps : List (Nat × Value)) (hp : parts.toList.map (fun p => (p.1, a.eval p.2)) = ps) {cells : Array Value} (hb : builtS Try.prog e len ps = some cells)
    (h : wpList Try.prog ops Q rest (a.put o.dst (.slice (some ⟨w.heap.size, 0, none⟩) len len)) (w.alloc (.cells cells e))) : wpList Try.prog ops Q (o :: rest) a w := by
  have e1 : (parts.map fun (i, x) => (i, a.eval x)).toList = ps := by rw [Array.toList_map]; exact hp
  refine wpList_plain hgd fun _ hK => ?_
  unfold Oper.wp execOp
  simp only [ho, Sem.run_bind, run_bldS w ty e len _ cells hu n hn hl h0 (by rw [e1]; exact hb), Result.andThen_ok]
  exact hK _ _ h
/-- An event with samples, an event with a change. -/
def evS (A : Option Addr) (x : List Int) (c : Nat) : EvA := ⟨1, 0, NetD.zero, x, none, none, A, 0, 0, c⟩
def evC (n : NetD) (NA : Option Addr) (nc : Nat) (XA : Option Addr) (xc : Nat) (f : Int) : EvA := ⟨2, f, n, [], NA, XA, none, nc, xc, 0⟩
theorem evS_cells (A : Option Addr) (x : List Int) (c : Nat) : (evS A x c).cells = ([.int .i64 1, .slice A x.length c] ++ NetD.zero.lst none 0 none 0 ++ [.int .i64 0] : List Value) := rfl
theorem evC_cells (n : NetD) (NA : Option Addr) (nc : Nat) (XA : Option Addr) (xc : Nat) (f : Int) : (evC n NA nc XA xc f).cells = ([.int .i64 2, .slice none 0 0] ++ n.lst NA nc XA xc ++ [.int .i64 f] : List Value) := rfl
theorem evS_at {w : World} {A : Option Addr} {x : List Int} {c : Nat} (h : Ints w A x) (hl : x.length ≤ 9223372036854775807) : EvAt w (evS A x c) := ⟨NetAt.zero, h, hl⟩
theorem evC_at {w : World} {n : NetD} {NA XA : Option Addr} {nc xc : Nat} {f : Int} (h : NetAt w n NA XA) : EvAt w (evC n NA nc XA xc f) := ⟨h, Ints.nil, Nat.zero_le _⟩
theorem built_evS (A : Option Addr) (k c : Nat) : Try.prog.built 33 [(0, .int .i64 1), (1, .slice A k c)] = some (([.int .i64 1, .slice A k c] ++ NetD.zero.lst none 0 none 0 ++ [.int .i64 0] : List Value).toArray) := by kernel_rfl
theorem built_evC (n : NetD) (NA : Option Addr) (nc : Nat) (XA : Option Addr) (xc : Nat) (f : Int) : Try.prog.built 33 [(0, .int .i64 2), (2, .agg (n.lst NA nc XA xc).toArray), (3, .int .i64 f)] = some (([.int .i64 2, .slice none 0 0] ++ n.lst NA nc XA xc ++ [.int .i64 f] : List Value).toArray) := by kernel_rfl
theorem built_ev3 (e0 e1 e2 : EvA) : builtS Try.prog 33 3 [(0, e0.v), (1, e1.v), (2, e2.v)] = some ((e0.cells ++ e1.cells ++ e2.cells).toArray) := by kernel_rfl
theorem und_ev : Try.prog.underlying 36 = some (.slice 33) := Try.underlying36
theorem evs3_at {w : World} {e0 e1 e2 : EvA} (h0 : EvAt w e0) (h1 : EvAt w e1) (h2 : EvAt w e2) : EvsAt (w.alloc (.cells (e0.cells ++ e1.cells ++ e2.cells).toArray 33)) (some ⟨w.heap.size, 0, none⟩) [e0, e1, e2] := by
  have hb := (Below.refl w.heap.size w).alloc (Nat.le_refl _) (.cells (e0.cells ++ e1.cells ++ e2.cells).toArray 33)
  have hB : Box (w.alloc (.cells (e0.cells ++ e1.cells ++ e2.cells).toArray 33)) w.heap.size (e0.cells ++ e1.cells ++ e2.cells) := Box.new rfl
  intro k e hk
  match k, hk with
  | 0, hk =>
    obtain rfl : e0 = e := by simpa using hk
    refine ⟨_, rfl, rfl, hB.1, fun j v hj => ?_, h0.grow hb⟩
    have hj15 : j < 15 := (List.getElem?_eq_some_iff.1 hj).1
    refine (hB.2.1 _).trans ?_
    show (e0.cells ++ e1.cells ++ e2.cells)[0 + 0 * 15 + j]? = some v
    rw [List.append_assoc, List.getElem?_append_left (by show _ < 15; omega), show 0 + 0 * 15 + j = j by omega]; exact hj
  | 1, hk =>
    obtain rfl : e1 = e := by simpa using hk
    refine ⟨_, rfl, rfl, hB.1, fun j v hj => ?_, h1.grow hb⟩
    refine (hB.2.1 _).trans ?_
    show (e0.cells ++ e1.cells ++ e2.cells)[0 + 1 * 15 + j]? = some v
    exact get_app (k := 0 + 1 * 15) rfl hj
  | 2, hk =>
    obtain rfl : e2 = e := by simpa using hk
    refine ⟨_, rfl, rfl, hB.1, fun j v hj => ?_, h2.grow hb⟩
    refine (hB.2.1 _).trans ?_
    show (e0.cells ++ e1.cells ++ e2.cells)[0 + 2 * 15 + j]? = some v
    have := get_app (a := e0.cells ++ e1.cells) (b := e2.cells) (c := []) (k := 0 + 2 * 15) rfl hj
    rwa [List.append_nil] at this
  | k + 3, hk => simp at hk
end Go.Proofs.Ytgabfdappeakiaa
