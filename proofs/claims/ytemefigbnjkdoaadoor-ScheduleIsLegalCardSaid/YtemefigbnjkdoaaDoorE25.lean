/- Maps of slices keyed by instructions: a map that the call makes, its entries, look-ups and stores. -/
import Derived.Test.YtemefigbnjkdoaaDoorE16
import Derived.DeepKeys4
import Derived.WideKeyEntry
set_option linter.unusedVariables false
set_option linter.unusedSimpArgs false
namespace Go.Proofs.YtemefigbnjkdoaaDoor
open Go.RowKit Go.WideMaps Go.WideElems Go.MapKept Go.ChangeMaps

theorem Ins.v_inj {i j : Ins} (h : i.v = j.v) : i = j := by
  obtain ⟨a, b, c, d⟩ := i
  obtain ⟨a', b', c', d'⟩ := j
  injection h with h
  have h := congrArg Array.toList h
  simp at h
  obtain ⟨rfl, rfl, rfl, rfl⟩ := h
  rfl
/-- What is known of the entries of the map in block b, but for the values. -/
structure EnsI (w : World) (b : Nat) (es : Array MapEntry) (clock : Nat) : Prop where
  blk : w.heap[b]? = some (.map es clock)
  lt : ∀ e ∈ es.toList, e.born < clock
  nd : (es.toList.map (·.born)).Nodup
  ok : ∀ e ∈ es.toList, ∃ i : Ins, i.ok ∧ e.key = i.v
  kd : (es.toList.map (·.key)).Nodup
/-- The value of i is v. -/
def ValI (l : List MapEntry) (i : Ins) (v : Value) : Prop := (∃ e ∈ l, e.key = i.v ∧ e.val = v) ∨ ((∀ e ∈ l, e.key ≠ i.v) ∧ v = .slice none 0 0)
/-- Block b is a map in which each instruction i has the value g i. -/
def MapI (w : World) (b : Nat) (g : Ins → Value) : Prop := ∃ es clock, EnsI w b es clock ∧ ∀ i : Ins, i.ok → ValI es.toList i (g i)
/-- And the entry of i, which is open, bears the stamp st. -/
def EntI (w : World) (b : Nat) (g : Ins → Value) (i : Ins) (st : Nat) : Prop := ∃ es clock, EnsI w b es clock ∧ (∀ j : Ins, j.ok → j ≠ i → ValI es.toList j (g j)) ∧ ∃ e ∈ es.toList, e.key = i.v ∧ e.born = st
def updI (g : Ins → Value) (i : Ins) (v : Value) : Ins → Value := fun j => if j = i then v else g j
theorem updI_same (g : Ins → Value) (i : Ins) (v : Value) : updI g i v i = v := if_pos rfl
theorem updI_other {g : Ins → Value} {i j : Ins} (v : Value) (h : j ≠ i) : updI g i v j = g j := if_neg h
theorem EnsI.block {w w' : World} {b : Nat} {es : Array MapEntry} {clock : Nat} (h : EnsI w b es clock) (e : w'.heap[b]? = w.heap[b]?) : EnsI w' b es clock := ⟨e.trans h.blk, h.lt, h.nd, h.ok, h.kd⟩
theorem MapI.block {w w' : World} {b : Nat} {g : Ins → Value} (h : MapI w b g) (e : w'.heap[b]? = w.heap[b]?) : MapI w' b g := by
  obtain ⟨es, clock, h1, h2⟩ := h
  exact ⟨es, clock, h1.block e, h2⟩
theorem EntI.block {w w' : World} {b : Nat} {g : Ins → Value} {i : Ins} {st : Nat} (h : EntI w b g i st) (e : w'.heap[b]? = w.heap[b]?) : EntI w' b g i st := by
  obtain ⟨es, clock, h1, h2⟩ := h
  exact ⟨es, clock, h1.block e, h2⟩
theorem setBlock_at {w : World} {b : Nat} {o : Obj} (hb : b < w.heap.size) : (setBlock w b o).heap[b]? = some o := by
  show (w.heap.setIfInBounds b o)[b]? = _
  rw [Array.getElem?_setIfInBounds_self_of_lt hb]
theorem setBlock_grown {w : World} {b : Nat} {o : Obj} : w.grownBy (setBlock w b o) (some b) :=
  ⟨rfl, rfl, rfl, by show _ ≤ (w.heap.setIfInBounds b o).size; rw [Array.size_setIfInBounds]; exact Nat.le_refl _, fun k _ hn => by
    show (w.heap.setIfInBounds b o)[k]? = _
    rw [Array.getElem?_setIfInBounds_ne (fun e => hn (by rw [e]))]⟩
theorem EnsI.size {w : World} {b : Nat} {es : Array MapEntry} {clock : Nat} (h : EnsI w b es clock) : b < w.heap.size := (Array.getElem?_eq_some_iff.1 h.blk).1
/-- One entry's value is changed. -/
theorem ens_set {w : World} {b : Nat} {es es' : Array MapEntry} {clock j : Nat} {e0 a : MapEntry} (h : EnsI w b es clock) (h2 : es.toList[j]? = some e0) (hk : a.key = e0.key) (hb : a.born = e0.born) (he : es'.toList = es.toList.set j a) :
    EnsI (setBlock w b (.map es' clock)) b es' clock ∧ (∀ i : Ins, e0.key ≠ i.v → ∀ v, ValI es.toList i v → ValI es'.toList i v) ∧ ∃ e ∈ es'.toList, e.key = e0.key ∧ e.val = a.val := by
  have hj := (List.getElem?_eq_some_iff.1 h2).1
  have hm0 := List.mem_of_getElem? h2
  have hmap : ∀ (α : Type) (f : MapEntry → α), f a = f e0 → es'.toList.map f = es.toList.map f := fun α f hf => by
    rw [he, List.map_set, hf]
    exact set_self _ _ _ (by rw [List.getElem?_map, h2]; rfl)
  have hmem : ∀ e ∈ es'.toList, e ∈ es.toList ∨ e = a := fun e hx => by
    rw [he] at hx
    exact List.mem_or_eq_of_mem_set hx
  have ha : a ∈ es'.toList := by rw [he]; exact List.mem_of_getElem? (List.getElem?_set_self hj)
  refine ⟨⟨setBlock_at h.size, fun e hx => ?_, ?_, fun e hx => ?_, ?_⟩, fun i hne v hv => ?_, ⟨a, ha, hk, rfl⟩⟩
  · rcases hmem e hx with hx | rfl
    · exact h.lt e hx
    · rw [hb]; exact h.lt e0 hm0
  · rw [hmap _ (·.born) hb]; exact h.nd
  · rcases hmem e hx with hx | rfl
    · exact h.ok e hx
    · rw [hk]; exact h.ok e0 hm0
  · rw [hmap _ (·.key) hk]; exact h.kd
  · rcases hv with ⟨e, h3, h4, h5⟩ | ⟨h3, h4⟩
    · obtain ⟨m, h6⟩ := List.getElem?_of_mem h3
      have hmj : j ≠ m := fun e1 => by
        subst e1
        rw [h2] at h6
        injection h6 with h6
        subst h6
        exact hne h4
      exact .inl ⟨e, by rw [he]; exact List.mem_of_getElem? ((List.getElem?_set_ne hmj).trans h6), h4, h5⟩
    · refine .inr ⟨fun e hx => ?_, h4⟩
      rcases hmem e hx with hx | rfl
      · exact h3 e hx
      · rw [hk]; exact hne
/-- An entry is added. -/
theorem ens_push {w : World} {b : Nat} {es : Array MapEntry} {clock : Nat} {i : Ins} {v : Value} (h : EnsI w b es clock) (hi : i.ok) (hn : ∀ e ∈ es.toList, e.key ≠ i.v) :
    EnsI (setBlock w b (.map (es.push ⟨i.v, v, clock⟩) (clock + 1))) b (es.push ⟨i.v, v, clock⟩) (clock + 1) ∧ (∀ j : Ins, j ≠ i → ∀ u, ValI es.toList j u → ValI (es.push ⟨i.v, v, clock⟩).toList j u) ∧ ⟨i.v, v, clock⟩ ∈ (es.push ⟨i.v, v, clock⟩).toList := by
  have e : (es.push ⟨i.v, v, clock⟩).toList = es.toList ++ [⟨i.v, v, clock⟩] := Array.toList_push
  refine ⟨⟨setBlock_at h.size, fun x hx => ?_, ?_, fun x hx => ?_, ?_⟩, fun j hne u hv => ?_, by rw [e]; simp⟩
  · rw [e] at hx
    rcases List.mem_append.1 hx with hx | hx
    · have := h.lt x hx; omega
    · rw [List.mem_singleton.1 hx]; exact Nat.lt_succ_self _
  · rw [e, List.map_append]
    refine List.nodup_append.2 ⟨h.nd, by simp, fun a ha c hc e1 => ?_⟩
    obtain ⟨x, hx, rfl⟩ := List.mem_map.1 ha
    simp at hc
    have := h.lt x hx
    omega
  · rw [e] at hx
    rcases List.mem_append.1 hx with hx | hx
    · exact h.ok x hx
    · rw [List.mem_singleton.1 hx]; exact ⟨i, hi, rfl⟩
  · rw [e, List.map_append]
    refine List.nodup_append.2 ⟨h.kd, by simp, fun a ha c hc e1 => ?_⟩
    obtain ⟨x, hx, rfl⟩ := List.mem_map.1 ha
    simp at hc
    exact hn x hx (e1.trans hc)
  · unfold ValI
    rw [e]
    rcases hv with ⟨x, h3, h4, h5⟩ | ⟨h3, h4⟩
    · exact .inl ⟨x, List.mem_append_left _ h3, h4, h5⟩
    · refine .inr ⟨fun x hx => ?_, h4⟩
      rcases List.mem_append.1 hx with hx | hx
      · exact h3 x hx
      · rw [List.mem_singleton.1 hx]; exact fun e2 => hne (Ins.v_inj e2.symm)
theorem MapI.new {w : World} {b : Nat} (h : w.heap[b]? = some (.map #[] 0)) : MapI w b (fun _ => .slice none 0 0) :=
  ⟨#[], 0, ⟨h, by simp, by simp, by simp, by simp⟩, fun i _ => .inr ⟨by simp, rfl⟩⟩
theorem key_ins {i : Ins} (hi : i.ok) : ∃ l, keyOf Tryd.prog 50 i.v = some l := by
  have hk : Tryd.prog.keyType 50 = true := by kernel_rfl
  have hf : i.v.formed Tryd.prog 50 = true := by kernel_rfl
  have hc : Tryd.prog.cellsOf 50 = 4 := by kernel_rfl
  have h1 : Tryd.prog.cellsOf 3 = 1 := by kernel_rfl
  have hn : Tryd.prog.types.size + 1 = (Tryd.prog.types.size - 1) + 1 + 1 := by kernel_rfl
  have e : ∀ m (x : Int), I64 x → Tryd.prog.keyLits (m + 1) 3 [.int .i64 x] = some [.int .i64 x] := fun m x hx => by
    have hw : (Lit.int .i64 x).wf = true := by
      obtain ⟨a, b⟩ := hx
      have h1 : IntKind.i64.min = -9223372036854775808 := by decide
      have h2 : IntKind.i64.max = 9223372036854775807 := by decide
      show (decide (IntKind.i64.min ≤ x) && decide (x ≤ IntKind.i64.max)) = true
      rw [h1, h2, decide_eq_true a, decide_eq_true b]; rfl
    simp [Program.keyLits, Tryd.underlying3, hw]
  obtain ⟨h0, ha, hb, hm⟩ := hi
  unfold keyOf
  rw [Tryd.underlying50]
  simp only [hk, hf, Bool.and_self, if_true]
  rw [hn]
  generalize Tryd.prog.types.size - 1 = n
  have ec : (Value.agg #[.int .i64 i.op, .int .i64 i.a, .int .i64 i.b, .int .i64 i.imm]).cells.toList = [.int .i64 i.op, .int .i64 i.a, .int .i64 i.b, .int .i64 i.imm] := rfl
  rw [ec]
  unfold Program.keyLits
  rw [Tryd.underlying50]
  simp [hc, h1, e n _ h0, e n _ ha, e n _ hb, e n _ hm]
theorem law_ins : KeyLaw Tryd.prog 50 :=
  deep_law_laid (by kernel_rfl) (m := 2) (by decide) (of_decide_eq_true (by kernel_rfl)) (by kernel_rfl) (by kernel_rfl)
theorem und_map : Tryd.prog.underlying 68 = some (.map 50 28) := Tryd.underlying68
theorem zero_ints (u : World) : (zeroValue 28).run Tryd.prog u = .ok (.slice none 0 0) u := by kernel_rfl
theorem EnsI.keys {w : World} {b : Nat} {es : Array MapEntry} {clock : Nat} (h : EnsI w b es clock) : ∀ e ∈ es.toList, ∃ l, keyOf Tryd.prog 50 e.key = some l := fun e he => by
  obtain ⟨i, hi, ek⟩ := h.ok e he
  rw [ek]; exact key_ins hi
/-- A look-up. -/
theorem MapI.look {w : World} {b : Nat} {g : Ins → Value} {i : Ins} (h : MapI w b g) (hi : i.ok) : (Instr.lookup 68 (.map (some b)) i.v false).run Tryd.prog w = .ok (g i) w := by
  obtain ⟨es, clock, hE, hV⟩ := h
  obtain ⟨kl, hkey⟩ := key_ins hi
  rcases law_ins.find w hkey es.toList hE.keys with ⟨h1, h2⟩ | ⟨j, e0, h1, h2, h3⟩
  · have hg : g i = .slice none 0 0 := by
      rcases hV i hi with ⟨e, h4, h5, -⟩ | ⟨-, h5⟩
      · exact absurd h5 (h2 e h4)
      · exact h5
    rw [hg]
    simp [Instr.lookup, run_underlying und_map, MapKept.run_getObj_map hE.blk, law_ins.check w _ hkey, h1, zero_ints, Result.andThen]
  · have hg : e0.val = g i := by
      rcases hV i hi with ⟨e, h4, h5, h6⟩ | ⟨h4, -⟩
      · have : e = e0 := by
          obtain ⟨m, hm⟩ := List.getElem?_of_mem h4
          have hmj : m = j := by
            have nd := hE.kd
            have hlt : m < (es.toList.map (·.key)).length := by
              have := (List.getElem?_eq_some_iff.1 hm).1
              rw [List.length_map]; exact this
            refine (List.getElem?_inj hlt nd).1 ?_
            rw [List.getElem?_map, List.getElem?_map, hm, h2]
            show some e.key = some e0.key
            rw [h5, h3]
          subst hmj
          rw [hm] at h2
          exact Option.some.inj h2
        rw [← this]; exact h6
      · exact absurd h3 (h4 e0 (List.mem_of_getElem? h2))
    rw [← hg]
    simp [Instr.lookup, run_underlying und_map, MapKept.run_getObj_map hE.blk, law_ins.check w _ hkey, h1, Result.andThen]
theorem ens_val {w : World} {b : Nat} {es : Array MapEntry} {clock j : Nat} {e0 : MapEntry} {i : Ins} {v : Value} (hE : EnsI w b es clock) (h2 : es.toList[j]? = some e0) (h3 : e0.key = i.v) (hV : ValI es.toList i v) : e0.val = v := by
  rcases hV with ⟨e, h4, h5, h6⟩ | ⟨h4, -⟩
  · have : e = e0 := by
      obtain ⟨m, hm⟩ := List.getElem?_of_mem h4
      have hmj : m = j := by
        have hlt : m < (es.toList.map (·.key)).length := by
          have := (List.getElem?_eq_some_iff.1 hm).1
          rw [List.length_map]; exact this
        refine (List.getElem?_inj hlt hE.kd).1 ?_
        rw [List.getElem?_map, List.getElem?_map, hm, h2]
        show some e.key = some e0.key
        rw [h5, h3]
      subst hmj
      rw [hm] at h2
      exact Option.some.inj h2
    rw [← this]; exact h6
  · exact absurd h3 (h4 e0 (List.mem_of_getElem? h2))
/-- An entry is opened, written later. -/
theorem MapI.entry {w : World} {b : Nat} {g : Ins → Value} {i : Ins} (h : MapI w b g) (hi : i.ok) :
    ∃ (st : Nat) (o : Obj), (Instr.mapEntry 68 (.map (some b)) i.v).run Tryd.prog w = .ok (.tuple #[g i, goInt st]) (setBlock w b o) ∧ EntI (setBlock w b o) b g i st := by
  obtain ⟨es, clock, hE, hV⟩ := h
  obtain ⟨kl, hkey⟩ := key_ins hi
  rcases law_ins.find w hkey es.toList hE.keys with ⟨h1, h2⟩ | ⟨j, e0, h1, h2, h3⟩
  · have hg : g i = .slice none 0 0 := by
      rcases hV i hi with ⟨e, h4, h5, -⟩ | ⟨-, h5⟩
      · exact absurd h5 (h2 e h4)
      · exact h5
    obtain ⟨p1, p2, p3⟩ := ens_push (v := .slice none 0 0) hE hi h2
    refine ⟨clock, .map (es.push ⟨i.v, .slice none 0 0, clock⟩) (clock + 1), ?_, _, _, p1, fun k hk hne => p2 k hne _ (hV k hk), _, p3, rfl, rfl⟩
    rw [hg]
    simp [Instr.mapEntry, run_underlying und_map, MapKept.run_getObj_map hE.blk, law_ins.check w _ hkey, h1, zero_ints, MapKept.run_setObj_map _ hE.blk, Result.andThen, setBlock]
  · have hg : e0.val = g i := ens_val hE h2 h3 (hV i hi)
    have hj : es[j]? = some e0 := by simpa using h2
    have hsame : es.modify j (fun e => { e with key := i.v }) = es := by
      apply Array.ext'
      rw [Array.toList_modify, modify_eq_set _ _ _ _ h2]
      have : ({ e0 with key := i.v } : MapEntry) = e0 := by rw [← h3]
      rw [this]
      exact set_self _ _ _ h2
    have hset : setBlock w b (.map es clock) = w := by
      have hb := hE.blk
      obtain ⟨hlt, hv⟩ := Array.getElem?_eq_some_iff.1 hb
      unfold setBlock
      have : w.heap.setIfInBounds b (.map es clock) = w.heap := by
        apply Array.ext_getElem?
        intro m
        by_cases e : b = m
        · subst e
          rw [Array.getElem?_setIfInBounds_self_of_lt hlt, hb]
        · rw [Array.getElem?_setIfInBounds_ne e]
      rw [this]
    refine ⟨e0.born, .map es clock, ?_, _, _, hE.block (by rw [hset]), fun k hk _ => hV k hk, _, List.mem_of_getElem? h2, h3, rfl⟩
    rw [← hg]
    simp [Instr.mapEntry, run_underlying und_map, MapKept.run_getObj_map hE.blk, law_ins.check w _ hkey, h1, hj, h3, law_ins.stays w hkey, hsame, MapKept.run_setObj_map _ hE.blk, Result.andThen, setBlock]
theorem EntI.store {w : World} {b : Nat} {g : Ins → Value} {i : Ins} {st : Nat} {v : Value} (h : EntI w b g i st) :
    ∃ o : Obj, (Instr.entryStore 68 (.map (some b)) (goInt st) v).run Tryd.prog w = .ok () (setBlock w b o) ∧ MapI (setBlock w b o) b (updI g i v) := by
  obtain ⟨es, clock, hE, hV, e0, hm, hk, hst⟩ := h
  obtain ⟨j, h2⟩ := List.getElem?_of_mem hm
  have hidx : es.findIdx? (fun e => ((e.born : Nat) : Int) == ((st : Nat) : Int)) = some j := by
    rw [findIdx_arr, ← hst]
    exact findIdx_born hE.nd h2
  have hset : (es.modify j (fun e => { e with val := v })).toList = es.toList.set j { e0 with val := v } := by
    rw [Array.toList_modify, modify_eq_set _ _ _ _ h2]
  obtain ⟨p1, p2, e, p3, p4, p5⟩ := ens_set (a := { e0 with val := v }) hE h2 rfl rfl hset
  refine ⟨.map (es.modify j fun e => { e with val := v }) clock, ?_, _, _, p1, fun k hk2 => ?_⟩
  · simp [Instr.entryStore, MapKept.run_getObj_map hE.blk, asInt, asIntOf, goInt, hidx, MapKept.run_setObj_map _ hE.blk, Result.andThen, setBlock]
  · by_cases ek : k = i
    · subst ek
      rw [updI_same]
      exact .inl ⟨e, p3, p4.trans hk, p5⟩
    · rw [updI_other _ ek]
      exact p2 k (fun e1 => ek (Ins.v_inj (hk.symm.trans e1)).symm) _ (hV k hk2 ek)
theorem MapI.update {w : World} {b : Nat} {g : Ins → Value} {i : Ins} {v : Value} (h : MapI w b g) (hi : i.ok) :
    ∃ o : Obj, (Instr.mapUpdate 68 (.map (some b)) i.v v).run Tryd.prog w = .ok () (setBlock w b o) ∧ MapI (setBlock w b o) b (updI g i v) := by
  obtain ⟨es, clock, hE, hV⟩ := h
  obtain ⟨kl, hkey⟩ := key_ins hi
  rcases law_ins.find w hkey es.toList hE.keys with ⟨h1, h2⟩ | ⟨j, e0, h1, h2, h3⟩
  · obtain ⟨p1, p2, p3⟩ := ens_push (v := v) hE hi h2
    refine ⟨.map (es.push ⟨i.v, v, clock⟩) (clock + 1), ?_, _, _, p1, fun k hk => ?_⟩
    · simp [Instr.mapUpdate, run_underlying und_map, MapKept.run_getObj_map hE.blk, law_ins.check w _ hkey, h1, MapKept.run_setObj_map _ hE.blk, Result.andThen, setBlock]
    · by_cases ek : k = i
      · subst ek
        rw [updI_same]
        exact .inl ⟨_, p3, rfl, rfl⟩
      · rw [updI_other _ ek]
        exact p2 k ek _ (hV k hk)
  · have hj : es[j]? = some e0 := by simpa using h2
    have hset : (es.modify j (fun e => { e with key := i.v, val := v })).toList = es.toList.set j { e0 with key := i.v, val := v } := by
      rw [Array.toList_modify, modify_eq_set _ _ _ _ h2]
    obtain ⟨p1, p2, e, p3, p4, p5⟩ := ens_set (a := { e0 with key := i.v, val := v }) hE h2 h3.symm rfl hset
    refine ⟨.map (es.modify j fun e => { e with key := i.v, val := v }) clock, ?_, _, _, p1, fun k hk => ?_⟩
    · simp [Instr.mapUpdate, run_underlying und_map, MapKept.run_getObj_map hE.blk, law_ins.check w _ hkey, h1, hj, h3, law_ins.stays w hkey, MapKept.run_setObj_map _ hE.blk, Result.andThen, setBlock]
    · by_cases ek : k = i
      · subst ek
        rw [updI_same]
        exact .inl ⟨e, p3, p4.trans h3, p5⟩
      · rw [updI_other _ ek]
        exact p2 k (fun e1 => ek (Ins.v_inj (h3.symm.trans e1)).symm) _ (hV k hk)
section
variable {ops : Array Oper} {rest : List Oper} {o : Oper} {a : Act} {Q : Exit → Act → World → Prop} {w : World} {b : Nat} {g : Ins → Value} {i : Ins}
theorem wp_look (hg : o.guard = none) (m x : Operand) (ho : o.op = .lookup 68 m x false) (hm : a.eval m = .map (some b)) (hx : a.eval x = i.v) (h : MapI w b g) (hi : i.ok)
    (hK : wpList Tryd.prog ops Q rest (a.put o.dst (g i)) w) : wpList Tryd.prog ops Q (o :: rest) a w := by
  refine wpList_plain hg fun K' hK' => ?_
  have hrun := h.look hi
  unfold Oper.wp
  simp [execOp, ho, hm, hx, hrun, Result.andThen]
  exact hK' _ _ hK
theorem wp_entry (hg : o.guard = none) (m x : Operand) (ho : o.op = .mapEntry 68 m x) (hm : a.eval m = .map (some b)) (hx : a.eval x = i.v) (h : MapI w b g) (hi : i.ok)
    (hK : ∀ (st : Nat) w', EntI w' b g i st → w.grownBy w' (some b) → wpList Tryd.prog ops Q rest (a.put o.dst (.tuple #[g i, .int .i64 st])) w') : wpList Tryd.prog ops Q (o :: rest) a w := by
  refine wpList_plain hg fun K' hK' => ?_
  obtain ⟨st, ob, hrun, h2⟩ := h.entry hi
  unfold Oper.wp
  simp [execOp, ho, hm, hx, hrun, Result.andThen]
  exact hK' _ _ (hK st _ h2 setBlock_grown)
theorem wp_estore {st : Nat} {v : Value} (hg : o.guard = none) (m x y : Operand) (ho : o.op = .entryStore 68 m x y) (hm : a.eval m = .map (some b)) (hx : a.eval x = .int .i64 st) (hy : a.eval y = v) (h : EntI w b g i st)
    (hK : ∀ w', MapI w' b (updI g i v) → w.grownBy w' (some b) → wpList Tryd.prog ops Q rest (a.put o.dst undef) w') : wpList Tryd.prog ops Q (o :: rest) a w := by
  refine wpList_plain hg fun K' hK' => ?_
  obtain ⟨ob, hrun, h2⟩ := h.store (v := v)
  have hrun : (Instr.entryStore 68 (.map (some b)) (.int .i64 st) v).run Tryd.prog w = .ok () (setBlock w b ob) := hrun
  unfold Oper.wp
  simp [execOp, ho, hm, hx, hy, hrun, Result.andThen]
  exact hK' _ _ (hK _ h2 setBlock_grown)
theorem wp_mapset {v : Value} (hg : o.guard = none) (m x y : Operand) (ho : o.op = .mapUpdate 68 m x y) (hm : a.eval m = .map (some b)) (hx : a.eval x = i.v) (hy : a.eval y = v) (h : MapI w b g) (hi : i.ok)
    (hK : ∀ w', MapI w' b (updI g i v) → w.grownBy w' (some b) → wpList Tryd.prog ops Q rest (a.put o.dst undef) w') : wpList Tryd.prog ops Q (o :: rest) a w := by
  refine wpList_plain hg fun K' hK' => ?_
  obtain ⟨ob, hrun, h2⟩ := h.update (v := v) hi
  unfold Oper.wp
  simp [execOp, ho, hm, hx, hy, hrun, Result.andThen]
  exact hK' _ _ (hK _ h2 setBlock_grown)
end
end Go.Proofs.YtemefigbnjkdoaaDoor
