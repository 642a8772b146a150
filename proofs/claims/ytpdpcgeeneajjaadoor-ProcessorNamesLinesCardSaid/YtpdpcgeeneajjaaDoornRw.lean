/- instruction of the reference. Printed by gen_rw.py. -/
import Derived.Test.YtpdpcgeeneajjaaDoornRvtoC
import Derived.Test.YtpdpcgeeneajjaaDoornE24
import Derived.Deep.RegionHeld3
import Derived.Test.YtpdpcgeeneajjaaDoornJ2
import Derived.OrdersHeld
set_option linter.unusedVariables false
set_option linter.unusedSimpArgs false
namespace Go.Proofs.YtpdpcgeeneajjaaDoor
open Go.RowKit
def RetIn (w : World) (r : Option Ins) (e : Ending) (w' : World) : Prop := ∃ i : Ins, i.ok ∧ e = .returned (.tuple #[i.v, .bool r.isSome]) ∧ (∀ j, r = some j → i = j) ∧ Below w.heap.size w w'
theorem opOf_none {p : List UInt8} (h : ∀ j, j < 12 → (opStr j).data.toList ≠ p) : opOf p = none := by
  cases e : opOf p with
  | none => rfl
  | some k => exact absurd (opOf_some e).2 (h k (opOf_some e).1)
theorem opOf_hit {p : List UInt8} {k : Nat} (hk : k < 12) (h : (opStr k).data.toList = p) : opOf p = some k := by rw [← h]; exact opOf_op hk
theorem splF_mem {c : UInt8} : ∀ {s : List UInt8}, ∀ x ∈ splF c s, x.length ≤ s.length
  | [], x, h => by rw [List.mem_singleton.1 h]; exact Nat.le_refl _
  | b :: s, x, h => by
    have hm : ∀ y ∈ splF c s, y.length ≤ s.length := fun y hy => splF_mem y hy
    by_cases hb : b = c
    · subst hb
      rw [splF_hit] at h
      rcases List.mem_cons.1 h with rfl | h
      · exact Nat.zero_le _
      · have := hm x h; simp; omega
    · rw [splF_miss hb] at h
      rcases List.mem_cons.1 h with rfl | h
      · have hne := splF_ne c s
        cases e : splF c s with
        | nil => exact absurd e hne
        | cons a t =>
          have := hm a (by rw [e]; exact List.mem_cons_self ..)
          simp only [List.headD_cons, List.length_cons]; omega
      · have := hm x (List.mem_of_mem_tail h); simp; omega
theorem zero_ok : Ins.zero.ok := by unfold Ins.ok Ins.zero I64; simp
theorem list_or {α : Type} (l : List α) : l = [] ∨ ∃ a t, l = a :: t := by
  cases l with
  | nil => exact .inl rfl
  | cons a t => exact .inr ⟨a, t, rfl⟩
theorem StrsAt.past {w : World} {B : Option Addr} {l : List (List UInt8)} {g k : Nat} {u : Value} (h : StrsAt w B l) (hn : ∀ a, B = some a → a.block ≠ g) : StrsAt (w.setCell ⟨g, k, none⟩ u) B l := fun j x hj => by
  obtain ⟨ad, e, h1, h2⟩ := h j x hj
  refine ⟨ad, e, ?_, by rw [World.size_setCell]; exact h2⟩
  rw [World.cell?_setCell_other _ _ _ _ (fun e2 => hn ad e (by rw [← block_add ad j, ← e2]))]
  exact h1
theorem StrsAt.drew {w : World} {B : Option Addr} {l : List (List UInt8)} (h : StrsAt w B l) : StrsAt w.drew B l := h.grow ((Below.refl _ _).drew)
theorem lt_add {g c : Nat} {ad : Addr} (h : ∀ a, some ad = some a → a.block < g) : ∀ a, (if c = 1 then some ad else some (⟨ad.block, ad.off + 1, none⟩ : Addr)) = some a → a.block < g := fun a ha => by
  split at ha
  · exact h a ha
  · injection ha with ha; rw [← ha]; exact h ad rfl
theorem good_list {s : List UInt8} {i : Ins} (h : i.formed = true) : ((str (lineB i)).data.toList == (str s).data.toList) = goodB s i := by
  cases e : goodB s i with
  | true => rw [(good_iff.1 e).2]; exact beq_iff_eq.2 rfl
  | false =>
    refine beq_eq_false_iff_ne.2 fun h2 => ?_
    have : goodB s i = true := good_iff.2 ⟨h, h2⟩
    rw [e] at this; cases this
theorem cell_b {w w' : World} (hb : Below w.heap.size w w') {a : Addr} {v : Value} (h : w.cell? a = some v) : w'.cell? a = some v := (hb.cell (lt_of_cell h)).trans h
end Go.Proofs.YtpdpcgeeneajjaaDoor
