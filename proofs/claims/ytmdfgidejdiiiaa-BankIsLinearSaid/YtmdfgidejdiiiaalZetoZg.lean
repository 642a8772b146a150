/- Several texts in one: Ze Zf Zg. -/
import Derived.Test.YtmdfgidejdiiiaalPltoZa
import Derived.Maps.AppendAt
import Derived.Lib.SliceRun
import Derived.Deep.CutBlock
import Derived.Laws.EntriesVeiled
import Derived.Deep.DeepCutAuto
set_option linter.unusedVariables false
set_option linter.unusedSimpArgs false
section
namespace Go.Proofs.Ytmdfgidejdiiiaa
open Go.RowKit
def Dg (x : Int) : Prop := 0 ≤ x ∧ x < 4294967296
def DigA (w : World) (A : Option Addr) (l : List Int) : Prop := Row w w.heap.size A (l.map (Value.int .u32)) ∧ ∀ x ∈ l, Dg x
section
variable {w w' : World} {A : Option Addr} {l : List Int}
theorem DigA.nil : DigA w A [] := ⟨Row.nil, by simp⟩
theorem DigA.dig (h : DigA w A l) : Dig l := h.2
theorem DigA.grow (h : DigA w A l) (hb : Below w.heap.size w w') : DigA w' A l := ⟨h.1.grow hb, h.2⟩
theorem DigA.at_ {k : Nat} (h : DigA w A l) (hk : k < l.length) : ∃ ad x, A = some ad ∧ ad.block < w.heap.size ∧ l[k]? = some x ∧ w.cell? (ad.add k) = some (.int .u32 x) ∧ 0 ≤ x ∧ x < 4294967296 := by
  obtain ⟨ad, v, e, h1, h2, h3⟩ := h.1.at_ (k := k) (by simpa using hk)
  have hx : l[k]? = some l[k] := List.getElem?_eq_getElem hk
  rw [List.getElem?_map, hx] at h2
  simp only [Option.map_some, Option.some.injEq] at h2
  subst h2
  obtain ⟨i1, i2⟩ := h.2 l[k] (List.getElem_mem hk)
  exact ⟨ad, l[k], e, h1, hx, h3, i1, i2⟩
end
theorem DigA.takeL {w : World} {B : Option Addr} {l : List Int} (h : DigA w B l) (k : Nat) : DigA w B (l.take k) := by
  refine ⟨fun j v hj => h.1 j v ?_, fun x hx => h.2 x (List.mem_of_mem_take hx)⟩
  rw [List.map_take, List.getElem?_take] at hj
  split at hj
  · exact hj
  · cases hj
theorem DigA.dropL {w : World} {B : Option Addr} {l : List Int} {c k : Nat} (h : DigA w B l) (hc : l.length ≤ c) : DigA w (if c = k then B else B.map (fun x => x.add k)) (l.drop k) := by
  refine ⟨fun j v hj => ?_, fun x hx => h.2 x (List.mem_of_mem_drop hx)⟩
  rw [List.map_drop, List.getElem?_drop] at hj
  obtain ⟨ad, e, h1, h2⟩ := h.1 (k + j) v hj
  have hlt : k + j < l.length := by have := (List.getElem?_eq_some_iff.1 hj).1; simpa using this
  rw [if_neg (by omega), e]
  exact ⟨ad.add k, rfl, by rw [block_add]; exact h1, by rw [add_add]; exact h2⟩
theorem info_u32 : (Try.prog.info? 77).map (fun i => (i.zero, i.size, i.bytes)) = some (some (.int .u32 0), 1, 4) := by kernel_rfl
def OwG (base : Nat) (w : World) (v : Value) (l : List Int) : Prop := w.ownsRow base 77 1 v l.length (l.map (Value.int .u32)) ∧ ∀ x ∈ l, Dg x
theorem OwG.nil {base : Nat} {w : World} : OwG base w (.slice none 0 0) [] := ⟨World.ownsRow_nil _ _ _ _, by simp⟩
theorem OwG.form {base : Nat} {w : World} {v : Value} {l : List Int} (h : OwG base w v l) : ∃ A c, v = .slice A l.length c ∧ l.length ≤ c ∧ DigA w A l := by
  obtain ⟨A, c, rfl, hc⟩ := own_form h.1
  exact ⟨A, c, rfl, hc, Row.of_own h.1, h.2⟩
theorem OwG.grow {base : Nat} {w w' : World} {v : Value} {l : List Int} (h : OwG base w v l) (hb : Below w.heap.size w w') : OwG base w' v l := ⟨own_grow h.1 hb, h.2⟩
theorem OwG.base {base base' : Nat} {w : World} {v : Value} {l : List Int} (h : OwG base w v l) (hb : base' ≤ base) : OwG base' w v l := ⟨own_base h.1 hb, h.2⟩
theorem app_dig {ops : Array Oper} {rest : List Oper} {o : Oper} {a : Act} {Q : Exit → Act → World → Prop} (W : World) (hgd : o.guard = none) (s x : Operand)
    (ho : o.op = .call { callee := .builtin .append, args := #[s, x], argTypes := #[24, 24] }) (base : Nat) {v : Value} {l : List Int} {y : Int} (hown : OwG base W v l) (hs : a.eval s = v)
    (hx : a.eval x = .slice (some ⟨W.heap.size, 0, none⟩) 1 1) (hn : l.length < 100000000) (hbase : base ≤ W.heap.size) (hy : Dg y)
    (h : ∀ v' w', OwG base w' v' (l ++ [y]) → Below base W w' → wpList Try.prog ops Q rest (a.put o.dst v') w') :
    wpList Try.prog ops Q (o :: rest) a (W.alloc (.cells #[.int .u32 y] 77)) := by
  obtain ⟨i0, hi, hz0, hz1, hz2⟩ := info_parts info_u32
  refine wpList_app1 W hgd s x 24 ho base 77 i0 (.int .u32 0) 4 Try.underlying24 hi hz0 hz1 hz2 rfl (by decide) hown.1 hs hx rfl hn hbase fun v' w' h1 h2 => h v' w' ⟨?_, ?_⟩ h2
  · simpa using h1
  · intro q hq
    rcases List.mem_append.1 hq with hq | hq
    · exact hown.2 q hq
    · simp at hq; subst hq; exact hy
theorem OwG.cell {base : Nat} {w : World} {g n c : Nat} {l : List Int} (h : OwG base w (.slice (some ⟨g, 0, none⟩) n c) l) {k : Nat} {y : Int} (hk : l[k]? = some y) : w.cell? ⟨g, k, none⟩ = some (.int .u32 y) := by
  obtain ⟨A, c', e, _⟩ := own_form h.1
  injection e with _ e2
  subst e2
  have hkl := (List.getElem?_eq_some_iff.1 hk).1
  rw [h.1.cellAt k (by omega), List.getElem?_map, hk]; rfl
theorem OwG.free {base : Nat} {w : World} {g n c : Nat} {l : List Int} (h : OwG base w (.slice (some ⟨g, 0, none⟩) n c) l) (k : Nat) : w.frozen? ⟨g, k, none⟩ = false := by
  obtain ⟨A, c', e, _⟩ := own_form h.1
  injection e with _ e2
  subst e2
  exact h.1.frozenAt k
theorem OwG.block {base : Nat} {w : World} {g n c : Nat} {l : List Int} (h : OwG base w (.slice (some ⟨g, 0, none⟩) n c) l) : base ≤ g ∧ g < w.heap.size := h.1.lt g rfl
theorem OwG.set {base : Nat} {w : World} {g n c : Nat} {l : List Int} (h : OwG base w (.slice (some ⟨g, 0, none⟩) n c) l) (k : Nat) {y : Int} (hy : Dg y) :
    OwG base (w.setCell ⟨g, k, none⟩ (.int .u32 y)) (.slice (some ⟨g, 0, none⟩) n c) (l.set k y) := by
  obtain ⟨A, c', e, _⟩ := own_form h.1
  injection e with _ e2
  subst e2
  have := (h.1.stored k (.int .u32 y)).1
  refine ⟨by rw [List.length_set, List.map_set]; exact this, fun q hq => ?_⟩
  rcases List.mem_or_eq_of_mem_set hq with hq | hq
  · exact h.2 q hq
  · rw [hq]; exact hy
theorem zeros_cellsG (n : Nat) : (madeCells (Value.int .u32 0).cells (n * 1)).toList = (List.replicate n (0 : Int)).map (Value.int .u32) := by
  apply List.ext_getElem?
  intro k
  simp only [madeCells, Value.cells, Array.toList_map, Array.toList_range, List.getElem?_map, List.getElem?_replicate, Nat.mul_one]
  rcases Nat.lt_or_ge k n with h | h
  · rw [List.getElem?_range h]; simp [h, Nat.mod_one]
  · rw [List.getElem?_eq_none (by simpa using h)]; simp; omega
theorem mk_dig {ops : Array Oper} {rest : List Oper} {o : Oper} {a : Act} {Q : Exit → Act → World → Prop} {w : World} (hg : o.guard = none) (s c : Operand) (hop : o.op = Op.makeSlice 24 s c)
    (base n : Nat) {N : Int} (hs : a.eval s = .int .i64 N) (hc : a.eval c = .int .i64 N) (hN : N = (n : Int)) (hn : n ≤ 100000000) (hb : base ≤ w.heap.size)
    (h : ∀ w', OwG base w' (.slice (some ⟨w.heap.size, 0, none⟩) n n) (List.replicate n 0) → Below w.heap.size w w' → wpList Try.prog ops Q rest (a.put o.dst (.slice (some ⟨w.heap.size, 0, none⟩) n n)) w') :
    wpList Try.prog ops Q (o :: rest) a w := by
  subst hN
  obtain ⟨i0, hi, hz0, hz1, hz2⟩ := info_parts info_u32
  refine wpList_make_full w hg s c 24 hop base 77 i0 (.int .u32 0) 1 Try.underlying24 hi hz0 hz1 .i64 .i64 n n n hs hc rfl rfl (by rw [hz2]; omega) (by unfold maxLen; omega) hb fun w' h1 h2 => h w' ⟨?_, ?_⟩ ?_
  · rw [List.length_replicate, ← zeros_cellsG]; exact h1
  · intro q hq; rw [List.eq_of_mem_replicate hq]; exact ⟨by decide, by decide⟩
  · exact (Below.refl _ _).grown h2 (Nat.le_refl _) (by intro k hk; cases hk)
set_option maxRecDepth 100000 in
theorem run_app_digs (w : World) (base : Nat) (ty : TypeId) (v : Value) (l m : List Int) (A : Option Addr) (c : Nat) (hown : OwG base w v l) (hI : DigA w A m) (hn : l.length + m.length ≤ 100000000) (hbase : base ≤ w.heap.size) :
    ∃ v' w', (Builtin.append_ #[24, 24] ty #[v, .slice A m.length c]).run Try.prog w = .ok v' w' ∧ OwG base w' v' (l ++ m) ∧ w.grownBy w' v.ownBlock ∧ (v'.ownBlock = v.ownBlock ∨ v'.ownBlock = some w.heap.size) := by
  obtain ⟨i0, hi, hz0, hz1, hz2⟩ := info_parts info_u32
  have h64 : ∀ x ∈ l ++ m, Dg x := fun x hx => by
    rcases List.mem_append.1 hx with hx | hx
    · exact hown.2 x hx
    · exact hI.2 x hx
  cases A with
  | none =>
    have hm : m = [] := by
      cases m with
      | nil => rfl
      | cons y t => obtain ⟨ad, _, e, _⟩ := hI.at_ (k := 0) (by simp); cases e
    subst hm
    refine ⟨v, w, ?_, by simpa using hown, ⟨rfl, rfl, rfl, Nat.le_refl _, fun _ _ _ => rfl⟩, .inl rfl⟩
    rcases hown.1.2 with ⟨rfl, _⟩ | ⟨g, cap, cur, rfl, _, _, hnc, _⟩
    · simp [Builtin.append_, run_underlying Try.underlying24, sizeOf, typeInfo, hi, Builtin.lenOf, Builtin.firstCells]
    · simp [Builtin.append_, run_underlying Try.underlying24, sizeOf, typeInfo, hi, Builtin.lenOf, Builtin.firstCells, hnc, storeCells]
  | some ad =>
    have hnews : ∀ j u, (m.map (Value.int .u32))[j]? = some u → w.cell? (ad.add j) = some u := fun j u hu => by
      obtain ⟨ad', e, _, h⟩ := hI.1 j u hu
      injection e with e
      rw [e]; exact h
    obtain ⟨v', w', h1, h2, h3, _, h5⟩ := run_append_own_at (P := Try.prog) w base 24 ty 77 i0 (.int .u32 0) 1 4 Try.underlying24 hi hz0 hz1 hz2 rfl (by decide) v l.length _ hown.1 ad m.length c (m.map (Value.int .u32)) (by simp) hnews
      (fun u hu => by obtain ⟨x, _, rfl⟩ := List.mem_map.1 hu; rfl) (by unfold maxLen; omega) (by omega) hbase
    refine ⟨v', w', h1, ⟨?_, h64⟩, h3, h5⟩
    rw [List.map_append, List.length_append]
    exact h2
theorem app_digs {ops : Array Oper} {rest : List Oper} {o : Oper} {a : Act} {Q : Exit → Act → World → Prop} (w : World) (hg : o.guard = none) (s x : Operand) (ho : o.op = .call { callee := .builtin .append, args := #[s, x], argTypes := #[24, 24] })
    (base : Nat) {v : Value} {l m : List Int} {A : Option Addr} {c : Nat} (hs : a.eval s = v) (hx : a.eval x = .slice A m.length c) (hown : OwG base w v l) (hI : DigA w A m) (hn : l.length + m.length ≤ 100000000) (hbase : base ≤ w.heap.size)
    (h : ∀ v' w', OwG base w' v' (l ++ m) → w.grownBy w' v.ownBlock → (v'.ownBlock = v.ownBlock ∨ v'.ownBlock = some w.heap.size) → wpList Try.prog ops Q rest (a.put o.dst v') w') : wpList Try.prog ops Q (o :: rest) a w := by
  refine wpList_plain hg fun K hK => ?_
  obtain ⟨v', w', hrun, h1, h2, h3⟩ := run_app_digs w base o.type v l m A c hown hI hn hbase
  unfold Oper.wp execOp
  simp only [ho, resolve, invoke, builtin, Sem.run_bind, Sem.run_pure, Result.andThen_ok, List.map_toArray, List.map_cons, List.map_nil, hs, hx, hrun]
  exact hK _ _ (h v' w' h1 h2 h3)
theorem OwG.dig {base : Nat} {w : World} {v : Value} {l : List Int} (h : OwG base w v l) : Dig l := h.2
theorem OwG.ge {base : Nat} {w : World} {v : Value} {l : List Int} (h : OwG base w v l) : ∀ k, v.ownBlock = some k → base ≤ k := fun k hk => (h.1.lt k hk).1
theorem OwG.digA {base : Nat} {w : World} {A : Option Addr} {n c : Nat} {l : List Int} (h : OwG base w (.slice A n c) l) : DigA w A l := by
  obtain ⟨A', c', e, _, hi⟩ := h.form
  injection e with e1 _ _
  rw [e1]; exact hi
theorem OwG.len {base : Nat} {w : World} {A : Option Addr} {n c : Nat} {l : List Int} (h : OwG base w (.slice A n c) l) : l.length = n ∧ n ≤ c := by
  obtain ⟨A', c', e, hc, _⟩ := h.form
  injection e with _ e2 e3
  omega
theorem OwG.away {base q : Nat} {w w' : World} {v : Value} {l : List Int} (h : OwG base w v l) (hg : w.grownBy w' (some q)) (hq : q < base) : OwG base w' v l := ⟨h.1.kept hg (.inr (fun e => by have := (h.1.lt _ e).1; omega)), h.2⟩
theorem OwG.cut {base g n c k : Nat} {w : World} {l : List Int} (h : OwG base w (.slice (some ⟨g, 0, none⟩) n c) l) (hk : k ≤ n) : OwG base w (.slice (some ⟨g, 0, none⟩) k c) (l.take k) := by
  obtain ⟨hl, -⟩ := h.len
  obtain ⟨⟨h1, h2 | ⟨q, cap, cur, e, hb, hh, hn, hm, hs, ht⟩⟩, hd⟩ := h
  · have := h2.1; cases this
  injection e with e1 e2 e3
  injection e1 with e1
  injection e1 with e1
  subst e1 e3
  refine ⟨⟨by simp, .inr ⟨g, c, cur, ?_, hb, hh, ?_, hm, hs, ?_⟩⟩, fun x hx => hd x (List.mem_of_mem_take hx)⟩
  · rw [List.length_take, Nat.min_eq_left (by omega)]
  · rw [List.length_take, Nat.min_eq_left (by omega)]; omega
  · rw [List.map_take, ← ht, List.take_take, List.length_take]
    congr 1
    omega
theorem OwG.empty {w : World} : OwG w.heap.size (w.alloc (.cells #[] 77)) (.slice (some ⟨w.heap.size, 0, none⟩) 0 0) [] := ⟨World.ownsRow_made w #[] 0 (Nat.le_refl _) (Nat.zero_le _) (by simp), by simp⟩
theorem app_digsM {ops : Array Oper} {rest : List Oper} {o : Oper} {a : Act} {Q : Exit → Act → World → Prop} (w : World) (hg : o.guard = none) (s x : Operand) (ho : o.op = .call { callee := .builtin .append, args := #[s, x], argTypes := #[24, 24] })
    (base : Nat) {v : Value} {l m : List Int} {A : Option Addr} {n c : Nat} (hs : a.eval s = v) (hx : a.eval x = .slice A n c) (hnm : m.length = n) (hown : OwG base w v l) (hI : DigA w A m) (hn : l.length + n ≤ 100000000) (hbase : base ≤ w.heap.size)
    (h : ∀ v' w', OwG base w' v' (l ++ m) → Below base w w' → wpList Try.prog ops Q rest (a.put o.dst v') w') : wpList Try.prog ops Q (o :: rest) a w := by
  subst hnm
  exact app_digs w hg s x ho base hs hx hown hI hn hbase fun v' w' h1 h2 _ => h v' w' h1 ((Below.refl _ _).grown h2 hbase hown.ge)
end Go.Proofs.Ytmdfgidejdiiiaa
end
section
namespace Go.Proofs.Ytmdfgidejdiiiaa
open Go.RowKit
def RetCut (w : World) (A : Option Addr) (c : Nat) (l : List Int) (e : Ending) (w' : World) : Prop := ∃ k, CutN l k ∧ e = .returned (.slice A k c) ∧ Below w.heap.size w w'
set_option maxRecDepth 100000 in
theorem nt_cut (A : Option Addr) (n c : Nat) (l : List Int) (w : World) (h : DigA w A l) (hn : l.length = n) (hc : n ≤ c) (h9 : n ≤ 1000000000) : Calls Try.prog 115 #[.slice A n c] w (RetCut w A c l) := by
  have HL := Lib.hid hn
  go_enter Try.func115, Try.ntmps115
  go_upto_region 2 with fail
  go_loopw [3] (fun i wr => ∃ k : Nat, k ≤ n ∧ i = .int .i64 k ∧ Hid (∀ x ∈ l.drop k, x = 0) ∧ Hid (Below w.heap.size w wr)) (fun i _ => (intOf i).toNat)
  case atStart => exact ⟨n, Nat.le_refl _, rfl, Lib.hid (by rw [List.drop_of_length_le (by omega)]; simp), Lib.hid (Below.refl _ _)⟩
  case round =>
    obtain ⟨k, hk, rfl, HZ, HB⟩ := hrel
    by_cases hk0 : k = 0
    · subst hk0
      go_wp2_with fail
      go_ret
      exact ⟨0, ⟨Nat.zero_le _, HZ.out, fun k x h => by omega⟩, rfl, HB.out⟩
    · obtain ⟨j, rfl⟩ : ∃ j, k = j + 1 := ⟨k - 1, by omega⟩
      obtain ⟨ad, x, rfl, hb, hx, hcx, i1, i2⟩ := (h.grow HB.out).at_ (k := j) (by rw [HL.out]; omega)
      have x0 : (0 : Int) ≤ (j : Int) := by omega
      have x1 : (j : Int) < (n : Int) := by omega
      have x2 : (0 : Int) < (j : Int) + 1 := by omega
      have x3 : IntKind.i64.wrap ((j : Int) + 1 - 1) = (j : Int) := (IntWalk.i64_in _ (by omega)).trans (by omega)
      have x4 : j + 1 ≤ c := by omega
      have HK := Lib.hid hk
      have HX := Lib.hid hx
      clear hx hk h hn
      by_cases hx0 : x = 0
      · subst hx0
        go_wp2_with fail
        go_roundw
        case rel => exact ⟨j, by have := HK.out; omega, rfl, Lib.hid (cut_step (by have := HK.out; have := HL.out; omega) HZ.out HX.out), HB⟩
        case measure => simp [intOf]
      · have hxf : (x == 0) = false := by simpa using hx0
        have HX0 := Lib.hid hx0
        clear hx0
        go_wp2_with fail
        go_ret
        refine ⟨j + 1, ⟨by have := HK.out; have := HL.out; omega, HZ.out, fun k y hk hy => ?_⟩, rfl, HB.out⟩
        have : k = j := by omega
        subst this
        rw [HX.out] at hy
        injection hy with hy
        exact hy ▸ HX0.out
def RetN (w : World) (x : Int) (K : Nat) (e : Ending) (w' : World) : Prop := ∃ v l, e = .returned v ∧ OwG w.heap.size w' v l ∧ nv l = x ∧ Nrm l ∧ l.length ≤ K ∧ Below w.heap.size w w'
def RetRow (w : World) (l : List Int) (e : Ending) (w' : World) : Prop := ∃ v, e = .returned v ∧ OwG w.heap.size w' v l ∧ Below w.heap.size w w'
theorem dig_none {w : World} {l : List Int} (h : DigA w none l) : l = [] := by
  cases l with
  | nil => rfl
  | cons x t => obtain ⟨ad, y, e, _⟩ := h.at_ (k := 0) (by simp); cases e
theorem sl_CloneU (A : Option Addr) (n c : Nat) (l : List Int) (w : World) (h : DigA w A l) (hn : l.length = n) (h9 : n ≤ 100000000) : Calls Try.prog 131 #[.slice A n c] w (RetRow w l) := by
  have q22 : ∀ (w : World) (a : Option Addr) (n c n' c' : Nat), (binOp .eql 24 (.slice a n c) (.slice none n' c')).run Try.prog w = .ok (.bool a.isNone) w := fun w a n c n' c' => Lib.run_eql_slice_nil w _ _ a n c n' c' Try.underlying24
  cases A with
  | none =>
    have hl := dig_none h
    subst hl
    go_enter Try.func131, Try.ntmps131
    go_wp2_with fail
    go_ret
    exact ⟨_, rfl, OwG.nil, Below.refl _ _⟩
  | some ad =>
    have he := OwG.empty (w := w)
    have hb := (Below.refl w.heap.size w).alloc (Nat.le_refl _) (.cells #[] 77)
    have hi := h.grow hb
    have hs : w.heap.size ≤ (w.alloc (.cells #[] 77)).heap.size := hb.size
    have HB := Lib.hid hb
    clear hb h
    go_enter Try.func131, Try.ntmps131
    go_wp2_with (at_builtin; refine app_digsM _ rfl _ _ rfl w.heap.size rfl rfl hn he hi (by simp; omega) hs ?_; intro v1 w1 ho1 hb1)
    go_ret
    exact ⟨_, rfl, ho1, HB.out.trans hb1⟩
theorem nt_Trim (A : Option Addr) (n c : Nat) (l : List Int) (w : World) (h : DigA w A l) (hn : l.length = n) (hc : n ≤ c) (h9 : n ≤ 100000000) : Calls Try.prog 120 #[.slice A n c] w (RetN w (nv l) n) := by
  have CC : Hid (Calls Try.prog 115 #[.slice A n c] w (RetCut w A c l)) := nt_cut A n c l w h hn hc (by omega)
  have CL : Hid (∀ k w1, CutN l k → Below w.heap.size w w1 → Calls Try.prog 131 #[.slice A k c] w1 (RetRow w1 (l.take k))) := fun k w1 hk hb => sl_CloneU A k c (l.take k) w1 ((h.grow hb).takeL k) hk.len (by have := hk.le; omega)
  have HL := Lib.hid hn
  clear h hn
  go_enter Try.func120, Try.ntmps120
  go_wp2_with (first
    | (go_at_call 115; (with_reducible refine CC.out.mono ?_); rintro e1 w1 ⟨k, hk, rfl, hb1⟩; have HK := Lib.hid hk; have HB1 := Lib.hid hb1; clear hk hb1)
    | (go_at_call 131; (with_reducible refine (CL.out _ _ HK.out HB1.out).mono ?_); rintro e2 w2 ⟨v, rfl, ho, hb2⟩))
  go_ret
  exact ⟨_, _, rfl, ho.base HB1.out.size, HK.out.nv, HK.out.nrm, by rw [HK.out.len]; have := HK.out.le; have := HL.out; omega, below_then HB1.out hb2⟩
theorem cmp_int (x y : Int) (w : World) : Calls Try.prog 123 #[.int .i64 x, .int .i64 y] w fun e w' => e = .returned (.int .i64 (cmpI x y)) ∧ w = w' := by
  rcases Int.lt_trichotomy x y with h | h | h
  · have h1 : cmpI x y = -1 := by unfold cmpI; rw [if_pos h]
    rw [h1]
    clear h1
    go_enter Try.func123, Try.ntmps123
    go_wp2
    go_ret
    exact ⟨rfl, rfl⟩
  · subst h
    have h1 : cmpI x x = 0 := by unfold cmpI; rw [if_neg (by omega), if_pos rfl]
    rw [h1]
    clear h1
    go_enter Try.func123, Try.ntmps123
    go_wp2
    go_ret
    exact ⟨rfl, rfl⟩
  · have h1 : cmpI x y = 1 := by unfold cmpI; rw [if_neg (by omega), if_neg (by omega)]
    have h2 : ¬ x < y := by omega
    rw [h1]
    clear h1
    go_enter Try.func123, Try.ntmps123
    go_wp2
    go_ret
    exact ⟨rfl, rfl⟩
theorem cmp_u32 (x y : Int) (w : World) : Calls Try.prog 124 #[.int .u32 x, .int .u32 y] w fun e w' => e = .returned (.int .i64 (cmpI x y)) ∧ w = w' := by
  rcases Int.lt_trichotomy x y with h | h | h
  · have h1 : cmpI x y = -1 := by unfold cmpI; rw [if_pos h]
    rw [h1]
    clear h1
    go_enter Try.func124, Try.ntmps124
    go_wp2
    go_ret
    exact ⟨rfl, rfl⟩
  · subst h
    have h1 : cmpI x x = 0 := by unfold cmpI; rw [if_neg (by omega), if_pos rfl]
    rw [h1]
    clear h1
    go_enter Try.func124, Try.ntmps124
    go_wp2
    go_ret
    exact ⟨rfl, rfl⟩
  · have h1 : cmpI x y = 1 := by unfold cmpI; rw [if_neg (by omega), if_neg (by omega)]
    have h2 : ¬ x < y := by omega
    rw [h1]
    clear h1
    go_enter Try.func124, Try.ntmps124
    go_wp2
    go_ret
    exact ⟨rfl, rfl⟩
set_option maxRecDepth 100000 in
theorem nt_Compare (A B : Option Addr) (n m c d : Nat) (a b : List Int) (w : World) (ha : DigA w A a) (hb : DigA w B b) (hn : a.length = n) (hm : b.length = m) (hc : n ≤ c) (hd : m ≤ d) (h9 : n ≤ 1000000000) (h8 : m ≤ 1000000000) :
    Calls Try.prog 95 #[.slice A n c, .slice B m d] w fun e w' => e = .returned (.int .i64 (cmpI (nv a) (nv b))) ∧ Below w.heap.size w w' := by
  have CA : Hid (Calls Try.prog 115 #[.slice A n c] w (RetCut w A c a)) := nt_cut A n c a w ha hn hc h9
  have CB : Hid (∀ w1, Below w.heap.size w w1 → Calls Try.prog 115 #[.slice B m d] w1 (RetCut w1 B d b)) := fun w1 h => nt_cut B m d b w1 (hb.grow h) hm hd h8
  have HA := Lib.hid ha
  have HB := Lib.hid hb
  have HN := Lib.hid (And.intro hn hm)
  clear ha hb hn hm
  obtain ⟨R, hR⟩ : ∃ R, cmpI (nv a) (nv b) = R := ⟨_, rfl⟩
  rw [hR]
  go_enter Try.func95, Try.ntmps95
  go_upto_region 2 with (go_at_call 115; first
    | ((with_reducible refine CA.out.mono ?_); rintro e1 w1 ⟨p, hp, rfl, hb1⟩; have HP := Lib.hid hp; have HB1 := Lib.hid hb1; clear hp hb1)
    | ((with_reducible refine (CB.out _ HB1.out).mono ?_); rintro e2 w2 ⟨q, hq, rfl, hb2⟩; have HQ := Lib.hid hq; have HB2 := Lib.hid (below_then HB1.out hb2); clear hq hb2))
  obtain ⟨pl, hpl⟩ : ∃ x, a.take p = x := ⟨_, rfl⟩
  obtain ⟨ql, hql⟩ : ∃ x, b.take q = x := ⟨_, rfl⟩
  have HPD : Hid (Dig pl ∧ Nrm pl ∧ pl.length = p ∧ nv pl = nv a) := Lib.hid (by rw [← hpl]; exact ⟨HA.out.dig.take p, HP.out.nrm, HP.out.len, HP.out.nv⟩)
  have HQD : Hid (Dig ql ∧ Nrm ql ∧ ql.length = q ∧ nv ql = nv b) := Lib.hid (by rw [← hql]; exact ⟨HB.out.dig.take q, HQ.out.nrm, HQ.out.len, HQ.out.nv⟩)
  have HPA : Hid (DigA w A pl) := Lib.hid (by rw [← hpl]; exact HA.out.takeL p)
  have HQA : Hid (DigA w B ql) := Lib.hid (by rw [← hql]; exact HB.out.takeL q)
  have hp9 : p ≤ 1000000000 := by have := HP.out.le; have := HN.out; omega
  have hq9 : q ≤ 1000000000 := by have := HQ.out.le; have := HN.out; omega
  rw [← HPD.out.2.2.2, ← HQD.out.2.2.2] at hR
  have HR := Lib.hid hR
  clear hR
  clear hpl hql HP HQ CA CB
  by_cases hpq : p = q
  · subst hpq
    go_upto_region 4 with fail
    go_upto_region 5 with fail
    go_wp2_with fail
    go_loopw [7] (fun i wr => ∃ (k : Nat) (t : Int), k ≤ p ∧ i = .int .i64 t ∧ Hid (t = (k : Int) - 1) ∧ Hid (pl.drop k = ql.drop k) ∧ Hid (Below w2.heap.size w2 wr)) (fun i _ => (intOf i + 1).toNat)
    case atStart => exact ⟨p, (p : Int) - 1, Nat.le_refl _, by go_num, Lib.hid rfl, Lib.hid (by rw [List.drop_of_length_le (by rw [HPD.out.2.2.1]; exact Nat.le_refl _), List.drop_of_length_le (by rw [HQD.out.2.2.1]; exact Nat.le_refl _)]), Lib.hid (Below.refl _ _)⟩
    case round =>
      obtain ⟨k, t, hk, rfl, HT, HD, HBW⟩ := hrel
      by_cases hk0 : k = 0
      · subst hk0
        obtain rfl : t = -1 := by have := HT.out; omega
        have HR0 : Hid (R = 0) := Lib.hid (by
          have h1 := HD.out
          rw [List.drop_zero, List.drop_zero] at h1
          rw [← HR.out, h1]
          unfold cmpI
          rw [if_neg (by omega), if_pos rfl])
        go_wp2_with fail
        go_ret
        exact ⟨by rw [HR0.out]; rfl, below_then HB2.out HBW.out⟩
      · obtain ⟨j, rfl⟩ : ∃ j, k = j + 1 := ⟨k - 1, by omega⟩
        obtain rfl : t = (j : Int) := by have := HT.out; omega
        have hbw := below_then HB2.out HBW.out
        obtain ⟨ad, x, rfl, _, hx, hcx, _, _⟩ := (HPA.out.grow hbw).at_ (k := j) (by rw [HPD.out.2.2.1]; omega)
        obtain ⟨bd, y, rfl, _, hy, hcy, _, _⟩ := (HQA.out.grow hbw).at_ (k := j) (by rw [HQD.out.2.2.1]; omega)
        have x0 : (0 : Int) ≤ (j : Int) := by omega
        have x1 : (j : Int) < (p : Int) := by omega
        have HX := Lib.hid hx
        have HY := Lib.hid hy
        have HK := Lib.hid hk
        clear hx hy hk hk0 HT
        by_cases hxy : x = y
        · subst hxy
          go_wp2_with fail
          go_quiet (fail)
          go_wp2_with fail
          go_roundw
          case rel => exact ⟨j, (j : Int) - 1, by have := HK.out; omega, by go_num, Lib.hid rfl, Lib.hid (by
            obtain ⟨l1, e1⟩ := List.getElem?_eq_some_iff.1 HX.out
            obtain ⟨l2, e2⟩ := List.getElem?_eq_some_iff.1 HY.out
            rw [List.drop_eq_getElem_cons l1, List.drop_eq_getElem_cons l2, e1, e2, HD.out]), Lib.hid (below_drewN HBW.out _)⟩
          case measure => simp [intOf]
        · have hne : (x != y) = true := by simp [hxy]
          have HE' : Hid (cmpI x y = R) := Lib.hid ((cmp_at HPD.out.1 HQD.out.1 HX.out HY.out HD.out hxy).symm.trans HR.out)
          have CU : Hid (∀ w1, Calls Try.prog 124 #[.int .u32 x, .int .u32 y] w1 fun e w' => e = .returned (.int .i64 (cmpI x y)) ∧ w1 = w') := fun w1 => cmp_u32 x y w1
          clear hxy
          have HBX : Hid (∀ n, Below w2.heap.size w2 (wr.drewN n)) := Lib.hid fun n => below_drewN HBW.out n
          clear hbw
          go_wp2_with fail
          go_quiet (fail)
          go_upto_region 8 with fail
          have HB5 := Lib.hid (HBX.out nq)
          generalize wr.drewN nq = w5 at HB5 ⊢
          have hbw := below_then HB2.out HB5.out
          obtain ⟨ad', x', e1, hb1, hx1, hc1, _, _⟩ := (HPA.out.grow hbw).at_ (k := j) (by rw [HPD.out.2.2.1]; have := HK.out; omega)
          obtain ⟨bd', y', e2, hb2, hy2, hc2, _, _⟩ := (HQA.out.grow hbw).at_ (k := j) (by rw [HQD.out.2.2.1]; have := HK.out; omega)
          injection e1 with e1
          injection e2 with e2
          subst e1 e2
          rw [HX.out] at hx1
          rw [HY.out] at hy2
          injection hx1 with hx1
          injection hy2 with hy2
          subst hx1 hy2
          have z1 : ∀ n : Ext w5, n.to.cell? (ad.add j) = some (.int .u32 x) := fun n => (n.cell _ (by rw [block_add]; exact hb1)).trans hc1
          have z2 : ∀ n : Ext w5, n.to.cell? (bd.add j) = some (.int .u32 y) := fun n => (n.cell _ (by rw [block_add]; exact hb2)).trans hc2
          have HBW5 := Lib.hid hbw
          clear hb1 hb2 hc1 hc2 hbw hcx hcy
          refine wp_region_ext (by kernel_rfl) (by kernel_rfl) ?_
          repeat (go_big_quiet_step (first | (go_at_call 124; exact ext_same (CU.out _))))
          refine wpQuiet_nil ?_
          rintro _ ⟨⟨w6, hb6⟩, rfl⟩
          go_wp2_with fail
          go_ret
          exact ⟨by rw [← HE'.out]; rfl, below_then HBW5.out hb6⟩
  · have x1 : ((p : Int) != (q : Int)) = true := by simp; omega
    have HE : Hid (cmpI (nv pl) (nv ql) = cmpI p q) := Lib.hid (by have h := cmp_len HPD.out.1 HQD.out.1 HPD.out.2.1 HQD.out.2.1 (by rw [HPD.out.2.2.1, HQD.out.2.2.1]; exact hpq); rw [HPD.out.2.2.1, HQD.out.2.2.1] at h; exact h)
    have HE' := Lib.hid (HE.out.symm.trans HR.out)
    have CI : Hid (∀ w1, Calls Try.prog 123 #[.int .i64 p, .int .i64 q] w1 fun e w' => e = .returned (.int .i64 (cmpI p q)) ∧ w1 = w') := fun w1 => cmp_int p q w1
    have hpq' : (p : Int) ≠ (q : Int) := by omega
    clear hpq
    go_wp2_with (go_at_call 123; (with_reducible refine (CI.out _).mono ?_); rintro e3 w3 ⟨rfl, rfl⟩)
    go_ret
    exact ⟨by rw [← HE'.out]; rfl, HB2.out⟩
end Go.Proofs.Ytmdfgidejdiiiaa
end
section
namespace Go.Proofs.Ytmdfgidejdiiiaa
open Go.RowKit
theorem set_zeros (T : List Int) (m : Nat) (d : Int) {k : Nat} (hk : T.length = k) : (T ++ List.replicate (m + 1) 0).set k d = (T ++ [d]) ++ List.replicate m 0 := by
  subst hk
  rw [List.set_append_right _ _ (Nat.le_refl _), Nat.sub_self, List.replicate_succ, List.set_cons_zero, List.append_assoc]
  rfl
theorem take_len {l : List Int} {n : Nat} (h : l.length ≤ n) : l.take n = l := List.take_of_length_le h
theorem RetCut.toN {w w1 w' : World} {g n c : Nat} {F : List Int} {e : Ending} (ho : OwG w.heap.size w1 (.slice (some ⟨g, 0, none⟩) n c) F) (hb : Below w.heap.size w w1) (h : RetCut w1 (some ⟨g, 0, none⟩) c F e w') : RetN w (nv F) n e w' := by
  obtain ⟨k, hk, rfl, hb1⟩ := h
  have hl := ho.len
  have hkn : k ≤ n := by have := hk.le; omega
  exact ⟨_, F.take k, rfl, (ho.cut hkn).grow hb1, hk.nv, hk.nrm, by rw [hk.len]; exact hkn, below_then hb hb1⟩
theorem RetN.le {w w' : World} {x : Int} {K M : Nat} {e : Ending} (h : RetN w x K e w') (hk : K ≤ M) : RetN w x M e w' := by
  obtain ⟨v, l, h1, h2, h3, h4, h5, h6⟩ := h
  exact ⟨v, l, h1, h2, h3, h4, Nat.le_trans h5 hk, h6⟩
theorem add_step {X Y T : List Int} {k : Nat} {x y c s c' : Int} (hk : T.length = k) (hX : X[k]? = some x) (hY : nv (Y.take (k + 1)) = nv (Y.take k) + bp k * y) (hT : nv T + bp k * c = nv (X.take k) + nv (Y.take k)) (hs : s + 4294967296 * c' = x + y + c) :
    nv (T ++ [s]) + bp (k + 1) * c' = nv (X.take (k + 1)) + nv (Y.take (k + 1)) := by
  subst hk
  rw [nv_app, nv_one, nv_take hX, hY, bp_succ]
  have e : 4294967296 * bp T.length * c' = bp T.length * (4294967296 * c') := by rw [Int.mul_comm 4294967296, Int.mul_assoc]
  have h1 : bp T.length * (s + 4294967296 * c') = bp T.length * (x + y + c) := by rw [hs]
  rw [Int.mul_add, Int.mul_add, Int.mul_add] at h1
  rw [e]
  omega
theorem take_past {Y : List Int} {k : Nat} (h : Y.length ≤ k) : nv (Y.take (k + 1)) = nv (Y.take k) + bp k * 0 := by
  rw [take_len h, take_len (Nat.le_succ_of_le h)]; omega
set_option maxRecDepth 100000 in
theorem nt_Add (A B : Option Addr) (n m c d : Nat) (a b : List Int) (w : World) (ha : DigA w A a) (hb : DigA w B b) (hn : a.length = n) (hm : b.length = m) (hc : n ≤ c) (hd : m ≤ d) (h9 : n ≤ 10000000) (h8 : m ≤ 10000000) :
    Calls Try.prog 121 #[.slice A n c, .slice B m d] w (RetN w (nv a + nv b) (max n m + 1)) := by
  have CA : Hid (Calls Try.prog 115 #[.slice A n c] w (RetCut w A c a)) := nt_cut A n c a w ha hn hc (by omega)
  have CB : Hid (∀ w1, Below w.heap.size w w1 → Calls Try.prog 115 #[.slice B m d] w1 (RetCut w1 B d b)) := fun w1 h => nt_cut B m d b w1 (hb.grow h) hm hd (by omega)
  have HA := Lib.hid ha
  have HB := Lib.hid hb
  have HN := Lib.hid (And.intro hn hm)
  obtain ⟨V, hV⟩ : ∃ V, nv a + nv b = V := ⟨_, rfl⟩
  obtain ⟨K, hK⟩ : ∃ K, max n m = K := ⟨_, rfl⟩
  rw [hV, hK]
  clear ha hb hn hm
  go_enter Try.func121, Try.ntmps121
  go_upto_region 2 with (go_at_call 115; first
    | ((with_reducible refine CA.out.mono ?_); rintro e1 w1 ⟨p, hp, rfl, hb1⟩; have HP := Lib.hid hp; have HB1 := Lib.hid hb1; clear hp hb1)
    | ((with_reducible refine (CB.out _ HB1.out).mono ?_); rintro e2 w2 ⟨q, hq, rfl, hb2⟩; have HQ := Lib.hid hq; have HB2 := Lib.hid (below_then HB1.out hb2); clear hq hb2))
  obtain ⟨pl, hpl⟩ : ∃ x, a.take p = x := ⟨_, rfl⟩
  obtain ⟨ql, hql⟩ : ∃ x, b.take q = x := ⟨_, rfl⟩
  have HPD : Hid (pl.length = p ∧ nv pl = nv a) := Lib.hid (by rw [← hpl]; exact ⟨HP.out.len, HP.out.nv⟩)
  have HQD : Hid (ql.length = q ∧ nv ql = nv b) := Lib.hid (by rw [← hql]; exact ⟨HQ.out.len, HQ.out.nv⟩)
  have HPA : Hid (DigA w A pl) := Lib.hid (by rw [← hpl]; exact HA.out.takeL p)
  have HQA : Hid (DigA w B ql) := Lib.hid (by rw [← hql]; exact HB.out.takeL q)
  have HPN : Hid (p ≤ n ∧ q ≤ m) := Lib.hid ⟨by have := HP.out.le; have := HN.out; omega, by have := HQ.out.le; have := HN.out; omega⟩
  have HVK := Lib.hid (And.intro hV hK)
  clear hpl hql HP HQ CB HA HB HN hV hK
  go_upto_if 20 with fail
  go_cut [5, 6] (fun s5 s6 wx => ∃ (XA YA : Option Addr) (xn yn xc yc : Nat) (X Y : List Int), s5 = .slice XA xn xc ∧ s6 = .slice YA yn yc ∧ wx = w2 ∧ Hid (DigA w XA X ∧ DigA w YA Y) ∧ Hid (X.length = xn ∧ Y.length = yn) ∧ Hid (yn ≤ xn ∧ xn ≤ K ∧ xn ≤ 10000000) ∧ Hid (nv X + nv Y = V))
  case first =>
    have hpn := HPN.out
    have hvk := HVK.out
    by_cases hlt : p < q
    · have x1 : (p : Int) < (q : Int) := by omega
      go_wp2_with fail
      go_meet
      exact ⟨B, A, q, p, d, c, ql, pl, rfl, rfl, rfl, Lib.hid ⟨HQA.out, HPA.out⟩, Lib.hid ⟨HQD.out.1, HPD.out.1⟩, Lib.hid (by omega), Lib.hid (by rw [HPD.out.2, HQD.out.2]; omega)⟩
    · have x1 : ¬ (p : Int) < (q : Int) := by omega
      go_wp2_with fail
      go_meet
      exact ⟨A, B, p, q, c, d, pl, ql, rfl, rfl, rfl, Lib.hid ⟨HPA.out, HQA.out⟩, Lib.hid ⟨HPD.out.1, HQD.out.1⟩, Lib.hid (by omega), Lib.hid (by rw [HPD.out.2, HQD.out.2]; omega)⟩
  case rest =>
    obtain ⟨XA, YA, xn, yn, xc, yc, X, Y, rfl, rfl, rfl, HXY, HL, HXN, HXV⟩ := hcut
    clear HPD HQD HPA HQA HPN HVK CA
    have hxn := HXN.out
    have q1 : IntKind.i64.wrap ((xn : Int) + 1) = ((xn + 1 : Nat) : Int) := (IntWalk.i64_in _ (by omega)).trans (by omega)
    go_upto_region 5 with ((with_reducible show wpList _ _ _ (Oper.mk _ (.makeSlice _ _ _) _ _ _ _ :: _) _ _); refine mk_dig rfl _ _ rfl w.heap.size (xn + 1) rfl rfl rfl (by omega) HB2.out.size ?_; intro w3 ho3 hb3; have HO3 := Lib.hid ho3; have HB3 := Lib.hid (below_then HB2.out hb3); clear ho3 hb3)
    have HX := Lib.hid HXY.out.1
    have HY := Lib.hid HXY.out.2
    have HDY : Hid (Dig Y) := Lib.hid HXY.out.2.dig
    clear HXY
    go_upto_region 7 with fail
    obtain ⟨g, hg⟩ : ∃ g, g = wc.heap.size := ⟨_, rfl⟩
    have HG : Hid (w.heap.size ≤ g) := Lib.hid (by rw [hg]; exact HB2.out.size)
    rw [← hg] at HO3 ⊢
    clear hg
    go_loopw [8, 29] (fun cy i wr => ∃ (k : Nat) (T : List Int) (cr : Int), k ≤ xn ∧ i = .int .i64 k ∧ cy = .int .u64 cr ∧ Hid (0 ≤ cr ∧ cr ≤ 1) ∧ Hid (T.length = k) ∧ Hid (nv T + bp k * cr = nv (X.take k) + nv (Y.take k)) ∧ Hid (OwG w.heap.size wr (.slice (some ⟨g, 0, none⟩) (xn + 1) (xn + 1)) (T ++ List.replicate (xn + 1 - k) 0)) ∧ Hid (Below w.heap.size w wr)) (fun _ i _ => xn - (intOf i).toNat)
    case atStart => exact ⟨0, [], 0, Nat.zero_le _, rfl, rfl, Lib.hid (by omega), Lib.hid rfl, Lib.hid (by simp [nv]), HO3, HB3⟩
    case round =>
      obtain ⟨k, T, cr, hk, rfl, rfl, HCR, HT, HS, HO, HBW⟩ := hrel
      by_cases hlt : k < xn
      · obtain ⟨ad, x, rfl, _, hx, hcx, i1, i2⟩ := (HX.out.grow HBW.out).at_ (k := k) (by rw [HL.out.1]; exact hlt)
        have HXX := Lib.hid hx
        have x0 : (0 : Int) ≤ (k : Int) := by omega
        have x1 : (k : Int) < (xn : Int) := by omega
        have x2 : (k : Int) < (xn : Int) + 1 := by omega
        have hcr := HCR.out
        obtain ⟨mz, hmz⟩ : ∃ m, xn + 1 - k = m + 1 := ⟨xn - k, by omega⟩
        have ho := HO.out
        rw [hmz] at ho
        clear hx
        by_cases hky : k < yn
        · obtain ⟨bd, y, rfl, _, hy, hcy, j1, j2⟩ := (HY.out.grow HBW.out).at_ (k := k) (by rw [HL.out.2]; exact hky)
          have HYY := Lib.hid hy
          have x3 : (k : Int) < (yn : Int) := by omega
          clear hy
          have zc := ho.cell (k := k) (y := 0) (by rw [List.getElem?_append_right (by rw [HT.out]; exact Nat.le_refl _), HT.out, Nat.sub_self]; rfl)
          have zf := ho.free k
          have hse := ho.set k (y := (x + cr + y) % 4294967296) ⟨by omega, by omega⟩
          rw [set_zeros T mz _ HT.out] at hse
          have HSE := Lib.hid hse
          have HBS := Lib.hid (HBW.out.setCell (p := ⟨g, k, none⟩) HG.out (.int .u32 ((x + cr + y) % 4294967296)))
          have HST := Lib.hid (add_step (s := (x + cr + y) % 4294967296) (c' := (x + cr + y) / 4294967296) HT.out HXX.out (nv_take HYY.out) HS.out (by omega))
          have HCN : Hid (0 ≤ (x + cr + y) / 4294967296 ∧ (x + cr + y) / 4294967296 ≤ 1) := Lib.hid (by omega)
          clear ho hse
          go_wp2_with fail
          go_roundw
          case rel => exact ⟨k + 1, T ++ [(x + cr + y) % 4294967296], (x + cr + y) / 4294967296, by omega, by go_num, rfl, HCN, Lib.hid (by rw [List.length_append, HT.out]; rfl), HST, Lib.hid (by rw [show xn + 1 - (k + 1) = mz by omega]; exact HSE.out), HBS⟩
          case measure => simp [intOf]; omega
        · have x3 : ¬ (k : Int) < (yn : Int) := by omega
          have HTP := Lib.hid (take_past (Y := Y) (k := k) (by rw [HL.out.2]; omega))
          have zc := ho.cell (k := k) (y := 0) (by rw [List.getElem?_append_right (by rw [HT.out]; exact Nat.le_refl _), HT.out, Nat.sub_self]; rfl)
          have zf := ho.free k
          have hse := ho.set k (y := (x + cr) % 4294967296) ⟨by omega, by omega⟩
          rw [set_zeros T mz _ HT.out] at hse
          have HSE := Lib.hid hse
          have HBS := Lib.hid (HBW.out.setCell (p := ⟨g, k, none⟩) HG.out (.int .u32 ((x + cr) % 4294967296)))
          have HST := Lib.hid (add_step (s := (x + cr) % 4294967296) (c' := (x + cr) / 4294967296) HT.out HXX.out HTP.out HS.out (by omega))
          have HCN : Hid (0 ≤ (x + cr) / 4294967296 ∧ (x + cr) / 4294967296 ≤ 1) := Lib.hid (by omega)
          clear ho hse
          go_wp2_with fail
          go_roundw
          case rel => exact ⟨k + 1, T ++ [(x + cr) % 4294967296], (x + cr) / 4294967296, by omega, by go_num, rfl, HCN, Lib.hid (by rw [List.length_append, HT.out]; rfl), HST, Lib.hid (by rw [show xn + 1 - (k + 1) = mz by omega]; exact HSE.out), HBS⟩
          case measure => simp [intOf]; omega
      · obtain rfl : k = xn := by omega
        have ho := HO.out
        rw [show k + 1 - k = 0 + 1 by omega] at ho
        have hcr := HCR.out
        have zc := ho.cell (k := k) (y := 0) (by rw [List.getElem?_append_right (by rw [HT.out]; exact Nat.le_refl _), HT.out, Nat.sub_self]; rfl)
        have zf := ho.free k
        have hse := ho.set k (y := cr) ⟨by omega, by omega⟩
        rw [set_zeros T 0 _ HT.out, List.replicate_zero, List.append_nil] at hse
        have HSE := Lib.hid hse
        have HBS := Lib.hid (HBW.out.setCell (p := ⟨g, k, none⟩) HG.out (.int .u32 cr))
        have HF : Hid (nv (T ++ [cr]) = V) := Lib.hid (by
          have h1 := HS.out
          rw [take_len (by rw [HL.out.1]; exact Nat.le_refl _), take_len (by rw [HL.out.2]; exact hxn.1), HXV.out] at h1
          rw [nv_app, nv_one, HT.out]; exact h1)
        have x0 : (0 : Int) ≤ (k : Int) := by omega
        have x2 : (k : Int) < (k : Int) + 1 := by omega
        clear ho hse
        generalize hW : wr.setCell ⟨g, k, none⟩ (.int .u32 cr) = W at HSE HBS
        have CC : Hid (Calls Try.prog 115 #[.slice (some ⟨g, 0, none⟩) (k + 1) (k + 1)] W (RetCut W (some ⟨g, 0, none⟩) (k + 1) (T ++ [cr]))) := Lib.hid (nt_cut _ _ _ _ W HSE.out.digA HSE.out.len.1 (Nat.le_refl _) (by omega))
        rw [← hW] at CC HSE HBS
        clear hW
        go_wp2_with (go_at_call 115; (with_reducible refine CC.out.mono ?_); intro e5 w5 h5; have H5 := RetCut.toN HSE.out HBS.out h5; obtain ⟨k5, hk5, rfl, hb5⟩ := h5)
        go_ret
        rw [HF.out] at H5
        exact H5.le (by omega)
end Go.Proofs.Ytmdfgidejdiiiaa
end
