/- Maps of slices keyed by instructions: a map that the call makes, its entries, look-ups and stores. -/
import Derived.Test.YtpmbgcfnehplaaaDoorE16
import Derived.DeepKeys4
import Derived.WideKeyEntry
set_option linter.unusedVariables false
set_option linter.unusedSimpArgs false
namespace Go.Proofs.YtpmbgcfnehplaaaDoor
open Go.RowKit Go.WideMaps Go.WideElems Go.MapKept Go.ChangeMaps

theorem Ins.v_inj {i j : Ins} (h : i.v = j.v) : i = j := by
  obtain ⟨a, b, c, d⟩ := i
  obtain ⟨a', b', c', d'⟩ := j
  injection h with h
  have h := congrArg Array.toList h
  simp at h
  obtain ⟨rfl, rfl, rfl, rfl⟩ := h
  rfl
/-- What is known of the entries of the map in block b, but for the values. -/
structure EnsI (w : World) (b : Nat) (es : Array MapEntry) (clock : Nat) : Prop where
  blk : w.heap[b]? = some (.map es clock)
  lt : ∀ e ∈ es.toList, e.born < clock
  nd : (es.toList.map (·.born)).Nodup
  ok : ∀ e ∈ es.toList, ∃ i : Ins, i.ok ∧ e.key = i.v
  kd : (es.toList.map (·.key)).Nodup
/-- The value of i is v. -/
def ValI (l : List MapEntry) (i : Ins) (v : Value) : Prop := (∃ e ∈ l, e.key = i.v ∧ e.val = v) ∨ ((∀ e ∈ l, e.key ≠ i.v) ∧ v = .slice none 0 0)
/-- Block b is a map in which each instruction i has the value g i. -/
def MapI (w : World) (b : Nat) (g : Ins → Value) : Prop := ∃ es clock, EnsI w b es clock ∧ ∀ i : Ins, i.ok → ValI es.toList i (g i)
/-- And the entry of i, which is open, bears the stamp st. -/
def EntI (w : World) (b : Nat) (g : Ins → Value) (i : Ins) (st : Nat) : Prop := ∃ es clock, EnsI w b es clock ∧ (∀ j : Ins, j.ok → j ≠ i → ValI es.toList j (g j)) ∧ ∃ e ∈ es.toList, e.key = i.v ∧ e.born = st
def updI (g : Ins → Value) (i : Ins) (v : Value) : Ins → Value := fun j => if j = i then v else g j
theorem updI_same (g : Ins → Value) (i : Ins) (v : Value) : updI g i v i = v := if_pos rfl
theorem updI_other {g : Ins → Value} {i j : Ins} (v : Value) (h : j ≠ i) : updI g i v j = g j := if_neg h
theorem EnsI.block {w w' : World} {b : Nat} {es : Array MapEntry} {clock : Nat} (h : EnsI w b es clock) (e : w'.heap[b]? = w.heap[b]?) : EnsI w' b es clock := ⟨e.trans h.blk, h.lt, h.nd, h.ok, h.kd⟩
theorem MapI.block {w w' : World} {b : Nat} {g : Ins → Value} (h : MapI w b g) (e : w'.heap[b]? = w.heap[b]?) : MapI w' b g := by
  obtain ⟨es, clock, h1, h2⟩ := h
  exact ⟨es, clock, h1.block e, h2⟩
theorem EntI.block {w w' : World} {b : Nat} {g : Ins → Value} {i : Ins} {st : Nat} (h : EntI w b g i st) (e : w'.heap[b]? = w.heap[b]?) : EntI w' b g i st := by
  obtain ⟨es, clock, h1, h2⟩ := h
  exact ⟨es, clock, h1.block e, h2⟩
theorem setBlock_at {w : World} {b : Nat} {o : Obj} (hb : b < w.heap.size) : (setBlock w b o).heap[b]? = some o := by
  show (w.heap.setIfInBounds b o)[b]? = _
  rw [Array.getElem?_setIfInBounds_self_of_lt hb]
theorem setBlock_grown {w : World} {b : Nat} {o : Obj} : w.grownBy (setBlock w b o) (some b) :=
  ⟨rfl, rfl, rfl, by show _ ≤ (w.heap.setIfInBounds b o).size; rw [Array.size_setIfInBounds]; exact Nat.le_refl _, fun k _ hn => by
    show (w.heap.setIfInBounds b o)[k]? = _
    rw [Array.getElem?_setIfInBounds_ne (fun e => hn (by rw [e]))]⟩
theorem EnsI.size {w : World} {b : Nat} {es : Array MapEntry} {clock : Nat} (h : EnsI w b es clock) : b < w.heap.size := (Array.getElem?_eq_some_iff.1 h.blk).1
/-- One entry's value is changed. -/
theorem ens_set {w : World} {b : Nat} {es es' : Array MapEntry} {clock j : Nat} {e0 a : MapEntry} (h : EnsI w b es clock) (h2 : es.toList[j]? = some e0) (hk : a.key = e0.key) (hb : a.born = e0.born) (he : es'.toList = es.toList.set j a) :
    EnsI (setBlock w b (.map es' clock)) b es' clock ∧ (∀ i : Ins, e0.key ≠ i.v → ∀ v, ValI es.toList i v → ValI es'.toList i v) ∧ ∃ e ∈ es'.toList, e.key = e0.key ∧ e.val = a.val := by
  have hj := (List.getElem?_eq_some_iff.1 h2).1
  have hm0 := List.mem_of_getElem? h2
  have hmap : ∀ (α : Type) (f : MapEntry → α), f a = f e0 → es'.toList.map f = es.toList.map f := fun α f hf => by
    rw [he, List.map_set, hf]
    exact set_self _ _ _ (by rw [List.getElem?_map, h2]; rfl)
  have hmem : ∀ e ∈ es'.toList, e ∈ es.toList ∨ e = a := fun e hx => by
    rw [he] at hx
    exact List.mem_or_eq_of_mem_set hx
  have ha : a ∈ es'.toList := by rw [he]; exact List.mem_of_getElem? (List.getElem?_set_self hj)
  refine ⟨⟨setBlock_at h.size, fun e hx => ?_, ?_, fun e hx => ?_, ?_⟩, fun i hne v hv => ?_, ⟨a, ha, hk, rfl⟩⟩
  · rcases hmem e hx with hx | rfl
    · exact h.lt e hx
    · rw [hb]; exact h.lt e0 hm0
  · rw [hmap _ (·.born) hb]; exact h.nd
  · rcases hmem e hx with hx | rfl
    · exact h.ok e hx
    · rw [hk]; exact h.ok e0 hm0
  · rw [hmap _ (·.key) hk]; exact h.kd
  · rcases hv with ⟨e, h3, h4, h5⟩ | ⟨h3, h4⟩
    · obtain ⟨m, h6⟩ := List.getElem?_of_mem h3
      have hmj : j ≠ m := fun e1 => by
        subst e1
        rw [h2] at h6
        injection h6 with h6
        subst h6
        exact hne h4
      exact .inl ⟨e, by rw [he]; exact List.mem_of_getElem? ((List.getElem?_set_ne hmj).trans h6), h4, h5⟩
    · refine .inr ⟨fun e hx => ?_, h4⟩
      rcases hmem e hx with hx | rfl
      · exact h3 e hx
      · rw [hk]; exact hne
/-- An entry is added. -/
theorem ens_push {w : World} {b : Nat} {es : Array MapEntry} {clock : Nat} {i : Ins} {v : Value} (h : EnsI w b es clock) (hi : i.ok) (hn : ∀ e ∈ es.toList, e.key ≠ i.v) :
    EnsI (setBlock w b (.map (es.push ⟨i.v, v, clock⟩) (clock + 1))) b (es.push ⟨i.v, v, clock⟩) (clock + 1) ∧ (∀ j : Ins, j ≠ i → ∀ u, ValI es.toList j u → ValI (es.push ⟨i.v, v, clock⟩).toList j u) ∧ ⟨i.v, v, clock⟩ ∈ (es.push ⟨i.v, v, clock⟩).toList := by
  have e : (es.push ⟨i.v, v, clock⟩).toList = es.toList ++ [⟨i.v, v, clock⟩] := Array.toList_push
  refine ⟨⟨setBlock_at h.size, fun x hx => ?_, ?_, fun x hx => ?_, ?_⟩, fun j hne u hv => ?_, by rw [e]; simp⟩
  · rw [e] at hx
    rcases List.mem_append.1 hx with hx | hx
    · have := h.lt x hx; omega
    · rw [List.mem_singleton.1 hx]; exact Nat.lt_succ_self _
  · rw [e, List.map_append]
    refine List.nodup_append.2 ⟨h.nd, by simp, fun a ha c hc e1 => ?_⟩
    obtain ⟨x, hx, rfl⟩ := List.mem_map.1 ha
    simp at hc
    have := h.lt x hx
    omega
  · rw [e] at hx
    rcases List.mem_append.1 hx with hx | hx
    · exact h.ok x hx
    · rw [List.mem_singleton.1 hx]; exact ⟨i, hi, rfl⟩
  · rw [e, List.map_append]
    refine List.nodup_append.2 ⟨h.kd, by simp, fun a ha c hc e1 => ?_⟩
    obtain ⟨x, hx, rfl⟩ := List.mem_map.1 ha
    simp at hc
    exact hn x hx (e1.trans hc)
  · unfold ValI
    rw [e]
    rcases hv with ⟨x, h3, h4, h5⟩ | ⟨h3, h4⟩
    · exact .inl ⟨x, List.mem_append_left _ h3, h4, h5⟩
    · refine .inr ⟨fun x hx => ?_, h4⟩
      rcases List.mem_append.1 hx with hx | hx
      · exact h3 x hx
      · rw [List.mem_singleton.1 hx]; exact fun e2 => hne (Ins.v_inj e2.symm)
theorem MapI.new {w : World} {b : Nat} (h : w.heap[b]? = some (.map #[] 0)) : MapI w b (fun _ => .slice none 0 0) :=
  ⟨#[], 0, ⟨h, by simp, by simp, by simp, by simp⟩, fun i _ => .inr ⟨by simp, rfl⟩⟩
end Go.Proofs.YtpmbgcfnehplaaaDoor
