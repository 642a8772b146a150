/- The literal of a slice of structs. -/
import Derived.Test.YtemefigbnjkdoaaDoorU3
set_option linter.unusedVariables false
set_option linter.unusedSimpArgs false
namespace Go.Proofs.YtemefigbnjkdoaaDoor
open Go.RowKit

def builtS (P : Program) (e : TypeId) (len : Nat) (parts : List (Nat × Value)) : Option (Array Value) :=
  match P.info? e with
  | some ie => match ie.zero with
    | some z => Instr.fill (fun i => some (i * ie.size, ie.size)) ((Array.range (len * ie.size)).map (z.cells[· % z.cells.size]!)) parts
    | none => none
  | none => none
theorem run_bldS {P : Program} (w : World) (t e : TypeId) (len : Nat) (parts : Array (Nat × Value)) (cells : Array Value) (hu : P.underlying t = some (.slice e)) (n : Nat) (hn : (P.info? e).map (·.size) = some n) (hl : len * n ≤ 2 ^ 24) (h0 : len * n ≠ 0) (h : builtS P e len parts.toList = some cells) :
    (Instr.buildSlice t len parts).run P w = .ok (.slice (some ⟨w.heap.size, 0, none⟩) len len) (w.alloc (.cells cells e)) := by
  unfold builtS at h
  cases hi : P.info? e with
  | none => simp [hi] at h
  | some ie =>
    cases hz : ie.zero with
    | none => simp [hi, hz] at h
    | some z =>
      simp only [hi, hz] at h
      have hs : ie.size = n := by simpa [hi] using hn
      subst hs
      have hl' : ¬ (2 ^ 24 < len * ie.size) := by omega
      simp [Instr.buildSlice, run_underlying hu, sizeOf, typeInfo, zeroValue, hi, hz, hl', h0, h]
      simp [go_sem]
/-- The literal of a slice of structs whose cells are reckoned apart. -/
theorem wp_bldS {ops : Array Oper} {rest : List Oper} {o : Oper} {a : Act} {Q : Exit → Act → World → Prop} {w : World} (hgd : o.guard = none) (ty e : TypeId) (len : Nat) (parts : Array (Nat × Operand)) (ho : o.op = .buildSlice ty len parts) (hu : Tryd.prog.underlying ty = some (.slice e)) (n : Nat) (hn : (Tryd.prog.info? e).map (·.size) = some n) (hl : len * n ≤ 2 ^ 24) (h0 : len * n ≠ 0)
    (ps : List (Nat × Value)) (hp : parts.toList.map (fun p => (p.1, a.eval p.2)) = ps) {cells : Array Value} (hb : builtS Tryd.prog e len ps = some cells)
    (h : wpList Tryd.prog ops Q rest (a.put o.dst (.slice (some ⟨w.heap.size, 0, none⟩) len len)) (w.alloc (.cells cells e))) : wpList Tryd.prog ops Q (o :: rest) a w := by
  have e1 : (parts.map fun (i, x) => (i, a.eval x)).toList = ps := by rw [Array.toList_map]; exact hp
  refine wpList_plain hgd fun _ hK => ?_
  unfold Oper.wp execOp
  simp only [ho, Sem.run_bind, run_bldS w ty e len _ cells hu n hn hl h0 (by rw [e1]; exact hb), Result.andThen_ok]
  exact hK _ _ h
end Go.Proofs.YtemefigbnjkdoaaDoor
