/- Several texts in one: E15 U4 E16 C E23 U5. -/
import Derived.Test.YtpdpcgeeneajjaaDoorsRutoE13
import Derived.OwnWalk
import Derived.Test.YtpdpcgeeneajjaaDoorsQtoU3
import Derived.Test.YtpdpcgeeneajjaaDoorsPltoK
set_option linter.unusedVariables false
set_option linter.unusedSimpArgs false
section
namespace Go.Proofs.YtpdpcgeeneajjaaDoor
open Go.RowKit
def rdF (R : List Int) (N : Int) (rs : List Int) : Int := rs.foldl (fun m s => if s < 8 then max m (R.getD s.toNat 0) else m) N
def wrF (R : List Int) (v : Int) (ws : List Int) : List Int := ws.foldl (fun r s => if s < 8 then r.set s.toNat v else r) R
def tmS (t : Int × List Int) (i : Ins) : Int × List Int := (rdF t.2 t.1 i.rd + 1, wrF t.2 (rdF t.2 t.1 i.rd + 1 + delayF i.op) i.wt)
def tmF (l : List Ins) : Int × List Int := l.foldl tmS (0, List.replicate 8 0)
end Go.Proofs.YtpdpcgeeneajjaaDoor
end
section
namespace Go.Proofs.YtpdpcgeeneajjaaDoor
open Go.RowKit
def builtS (P : Program) (e : TypeId) (len : Nat) (parts : List (Nat × Value)) : Option (Array Value) :=
  match P.info? e with
  | some ie => match ie.zero with
    | some z => Instr.fill (fun i => some (i * ie.size, ie.size)) ((Array.range (len * ie.size)).map (z.cells[· % z.cells.size]!)) parts
    | none => none
  | none => none
theorem run_bldS {P : Program} (w : World) (t e : TypeId) (len : Nat) (parts : Array (Nat × Value)) (cells : Array Value) (hu : P.underlying t = some (.slice e)) (n : Nat) (hn : (P.info? e).map (·.size) = some n) (hl : len * n ≤ 2 ^ 24) (h0 : len * n ≠ 0) (h : builtS P e len parts.toList = some cells) :
    (Instr.buildSlice t len parts).run P w = .ok (.slice (some ⟨w.heap.size, 0, none⟩) len len) (w.alloc (.cells cells e)) := by
  unfold builtS at h
  cases hi : P.info? e with
  | none => simp [hi] at h
  | some ie =>
    cases hz : ie.zero with
    | none => simp [hi, hz] at h
    | some z =>
      simp only [hi, hz] at h
      have hs : ie.size = n := by simpa [hi] using hn
      subst hs
      have hl' : ¬ (2 ^ 24 < len * ie.size) := by omega
      simp [Instr.buildSlice, run_underlying hu, sizeOf, typeInfo, zeroValue, hi, hz, hl', h0, h]
      simp [go_sem]
theorem wp_bldS {ops : Array Oper} {rest : List Oper} {o : Oper} {a : Act} {Q : Exit → Act → World → Prop} {w : World} (hgd : o.guard = none) (ty e : TypeId) (len : Nat) (parts : Array (Nat × Operand)) (ho : o.op = .buildSlice ty len parts) (hu : Tryd.prog.underlying ty = some (.slice e)) (n : Nat) (hn : (Tryd.prog.info? e).map (·.size) = some n) (hl : len * n ≤ 2 ^ 24) (h0 : len * n ≠ 0)
    (ps : List (Nat × Value)) (hp : parts.toList.map (fun p => (p.1, a.eval p.2)) = ps) {cells : Array Value} (hb : builtS Tryd.prog e len ps = some cells)
    (h : wpList Tryd.prog ops Q rest (a.put o.dst (.slice (some ⟨w.heap.size, 0, none⟩) len len)) (w.alloc (.cells cells e))) : wpList Tryd.prog ops Q (o :: rest) a w := by
  have e1 : (parts.map fun (i, x) => (i, a.eval x)).toList = ps := by rw [Array.toList_map]; exact hp
  refine wpList_plain hgd fun _ hK => ?_
  unfold Oper.wp execOp
  simp only [ho, Sem.run_bind, run_bldS w ty e len _ cells hu n hn hl h0 (by rw [e1]; exact hb), Result.andThen_ok]
  exact hK _ _ h
end Go.Proofs.YtpdpcgeeneajjaaDoor
end
section
namespace Go.Proofs.YtpdpcgeeneajjaaDoor
open Go.RowKit
def encI (i : Ins) : List Int := [i.op, i.a, i.b, i.imm]
theorem flatI_get {l : List Ins} {k j : Nat} {i : Ins} (h : l[k]? = some i) (hj : j < 4) : ((l.flatMap encI).map (Value.int .i64))[k * 4 + j]? = i.cells[j]? := by
  rw [List.getElem?_map, flat_get (enc := encI) (sz := 4) (fun _ => rfl) l k j i h hj, ← List.getElem?_map]; rfl
theorem InsAt.row {w : World} {A : Option Addr} {l : List Ins} (h : InsAt w A l) : ∀ j u, ((l.flatMap encI).map (Value.int .i64))[j]? = some u → ∃ ad, A = some ad ∧ w.cell? (ad.add j) = some u := fun j u hu => by
  have hj : j < l.length * 4 := by
    have := (List.getElem?_eq_some_iff.1 hu).1
    rw [List.length_map, flat_length (enc := encI) (sz := 4) (fun _ => rfl)] at this
    exact this
  have hk : j / 4 < l.length := by omega
  have ht : l[j / 4]? = some l[j / 4] := List.getElem?_eq_getElem hk
  obtain ⟨ad, e, hs, -, hr, -⟩ := h _ _ ht
  refine ⟨ad, e, ?_⟩
  have ej : j = j / 4 * 4 + j % 4 := by omega
  rw [ej, flatI_get ht (by omega)] at hu
  rw [add_noneI hs, show ad.off + j = ad.off + j / 4 * 4 + j % 4 by omega]
  exact hr (j % 4) u hu
theorem InsAt.grown {w w' : World} {A : Option Addr} {l : List Ins} {r : Option Nat} (h : InsAt w A l) (hg : w.grownBy w' r) (hn : ∀ a, A = some a → some a.block ≠ r) : InsAt w' A l := fun k i hk => by
  obtain ⟨ad, e, h1, h2, h3, h4⟩ := h k i hk
  exact ⟨ad, e, h1, Nat.lt_of_lt_of_le h2 hg.size, fun j v hj => hg.cell (h3 j v hj) (hn ad e), h4⟩
theorem nums_one {l : List Int} : ∀ u ∈ l.map (Value.int .i64), u.oneCell' = true := fun u hu => by
  obtain ⟨x, _, rfl⟩ := List.mem_map.1 hu; rfl
theorem info_ins : (Tryd.prog.info? 50).map (fun i => (i.zero, i.size, i.bytes)) = some (some (.agg #[.int .i64 0, .int .i64 0, .int .i64 0, .int .i64 0]), 4, 32) := by kernel_rfl
theorem und_ins : Tryd.prog.underlying 24 = some (.slice 50) := Tryd.underlying24
theorem built_ins1 (i : Ins) : builtS Tryd.prog 50 1 [(0, i.v)] = some (i.cells.toArray) := by kernel_rfl
def OwnIR (base : Nat) (w : World) (v : Value) (l : List Ins) : Prop := w.ownsRow base 50 4 v l.length ((l.flatMap encI).map (Value.int .i64)) ∧ ∀ i ∈ l, i.ok
theorem OwnIR.nil {base : Nat} {w : World} : OwnIR base w (.slice none 0 0) [] := ⟨World.ownsRow_nil _ _ _ _, by simp⟩
theorem OwnIR.grow {base : Nat} {w w' : World} {v : Value} {l : List Ins} (h : OwnIR base w v l) (hb : Below w.heap.size w w') : OwnIR base w' v l := ⟨own_grow h.1 hb, h.2⟩
theorem OwnIR.base {base base' : Nat} {w : World} {v : Value} {l : List Ins} (h : OwnIR base w v l) (hb : base' ≤ base) : OwnIR base' w v l := ⟨own_base h.1 hb, h.2⟩
theorem OwnIR.store {base g k : Nat} {w : World} {v u : Value} {l : List Ins} (h : OwnIR base w v l) (hg : g < base) : OwnIR base (w.setCell ⟨g, k, none⟩ u) v l := ⟨own_store h.1 hg, h.2⟩
theorem OwnIR.ge {base : Nat} {w : World} {v : Value} {l : List Ins} (h : OwnIR base w v l) : ∀ k, v.ownBlock = some k → base ≤ k := fun k hk => (h.1.lt k hk).1
theorem OwnIR.form {base : Nat} {w : World} {v : Value} {l : List Ins} (h : OwnIR base w v l) : ∃ A c, v = .slice A l.length c ∧ l.length ≤ c ∧ InsAt w A l := by
  obtain ⟨A, c, rfl, hc⟩ := own_form h.1
  refine ⟨A, c, rfl, hc, fun k i hk => ?_⟩
  have hc4 : ∀ j v, i.cells[j]? = some v → ∃ g, A = some ⟨g, 0, none⟩ ∧ g < w.heap.size ∧ w.cell? ⟨g, k * 4 + j, none⟩ = some v := fun j v hj => by
    have hj4 : j < 4 := (List.getElem?_eq_some_iff.1 hj).1
    obtain ⟨g, e0, hg, d0⟩ := own_cells h.1 (k := k * 4 + j) (v := v) (by rw [flatI_get hk hj4]; exact hj)
    exact ⟨g, e0, hg, d0⟩
  obtain ⟨g, e0, hg, d0⟩ := hc4 0 _ rfl
  refine ⟨⟨g, 0, none⟩, e0, rfl, hg, fun j v hj => ?_, h.2 i (List.mem_of_getElem? hk)⟩
  obtain ⟨g1, e1, hg1, d1⟩ := hc4 j v hj
  rw [e0] at e1
  injection e1 with e1; injection e1 with e1
  subst e1
  rw [show (⟨g, 0, none⟩ : Addr).off + k * 4 + j = k * 4 + j by show 0 + k * 4 + j = _; omega]
  exact d1
theorem OwnIR.single {w : World} {i : Ins} (hi : i.ok) : OwnIR w.heap.size (w.alloc (.cells i.cells.toArray 50)) (.slice (some ⟨w.heap.size, 0, none⟩) 1 1) [i] :=
  ⟨World.ownsRow_lit w i.cells.toArray 1 (Nat.le_refl _) (by unfold maxLen; omega) (by kernel_rfl), fun x hx => by rw [List.mem_singleton.1 hx]; exact hi⟩
theorem app_ins {ops : Array Oper} {rest : List Oper} {o : Oper} {a : Act} {Q : Exit → Act → World → Prop} (w : World) (hg : o.guard = none) (s x : Operand) (ho : o.op = .call { callee := .builtin .append, args := #[s, x], argTypes := #[24, 24] })
    (base : Nat) {v : Value} {l m : List Ins} {A : Option Addr} {n c : Nat} (hs : a.eval s = v) (hx : a.eval x = .slice A n c) (hown : OwnIR base w v l) (hI : InsAt w A m) (hm : m.length = n) (hn : l.length + n ≤ 100000000) (hbase : base ≤ w.heap.size)
    (h : ∀ v' w', OwnIR base w' v' (l ++ m) → Below base w w' → wpList Tryd.prog ops Q rest (a.put o.dst v') w') : wpList Tryd.prog ops Q (o :: rest) a w := by
  subst hm
  refine app_row w hg s x 24 50 (.agg #[.int .i64 0, .int .i64 0, .int .i64 0, .int .i64 0]) 4 32 ho und_ins info_ins rfl (by decide) (by decide) base hs hx hown.1 (ys := (m.flatMap encI).map (Value.int .i64)) ?_ hI.row nums_one hn hbase fun v' w' h1 h2 h3 => h v' w' ⟨?_, ?_⟩ (own_below (Below.refl _ _) hbase hown.ge h2)
  · rw [List.length_map, flat_length (enc := encI) (sz := 4) (fun _ => rfl)]
  · rw [List.flatMap_append, List.map_append, List.length_append]; exact h1
  · intro i hi
    rcases List.mem_append.1 hi with hi | hi
    · exact hown.2 i hi
    · exact hI.ok i hi
theorem mk_ins0 {ops : Array Oper} {rest : List Oper} {o : Oper} {a : Act} {Q : Exit → Act → World → Prop} {w : World} (hg : o.guard = none) (s c : Operand) (hop : o.op = Op.makeSlice 24 s c)
    (base n : Nat) {N : Int} (hs : a.eval s = .int .i64 0) (hc : a.eval c = .int .i64 N) (hN : N = (n : Int)) (hn : n ≤ 100000000) (hb : base ≤ w.heap.size)
    (h : ∀ w', OwnIR base w' (.slice (some ⟨w.heap.size, 0, none⟩) 0 n) [] → Below w.heap.size w w' → wpList Tryd.prog ops Q rest (a.put o.dst (.slice (some ⟨w.heap.size, 0, none⟩) 0 n)) w') :
    wpList Tryd.prog ops Q (o :: rest) a w := by
  subst hN
  obtain ⟨i0, hi, hz0, hz1, hz2⟩ := info_parts info_ins
  refine wpList_make_own w hg s c 24 hop base 50 i0 (.agg #[.int .i64 0, .int .i64 0, .int .i64 0, .int .i64 0]) 4 und_ins hi hz0 hz1 .i64 .i64 n n hs hc rfl (by rw [hz2]; omega) (by unfold maxLen; omega) hb fun w' h1 h2 => h w' ⟨h1, by simp⟩ ((Below.refl _ _).grown h2 (Nat.le_refl _) (by intro k hk; cases hk))
theorem bld_ins1 {ops : Array Oper} {rest : List Oper} {o : Oper} {a : Act} {Q : Exit → Act → World → Prop} {w : World} {i : Ins} (hgd : o.guard = none) (x : Operand) (ho : o.op = .buildSlice 24 1 #[(0, x)]) (hx : a.eval x = i.v)
    (h : wpList Tryd.prog ops Q rest (a.put o.dst (.slice (some ⟨w.heap.size, 0, none⟩) 1 1)) (w.alloc (.cells i.cells.toArray 50))) : wpList Tryd.prog ops Q (o :: rest) a w :=
  wp_bldS hgd 24 50 1 _ ho und_ins 4 size_ins (by decide) (by decide) _ rfl (by show builtS Tryd.prog 50 1 [(0, a.eval x)] = _; rw [hx]; exact built_ins1 i) h
end Go.Proofs.YtpdpcgeeneajjaaDoor
end
section
namespace Go.Proofs.YtpdpcgeeneajjaaDoor
open Go.RowKit
def mkW (k least most above : Int) : Int × Int × Int × Int :=
  (least + withinF k 1099511627776 % (most - least + 1),
   max (least + withinF k 1099511627776 % (most - least + 1) - 1 - above - withinF k 1099511627776 / (most - least + 1) % 2) 0,
   1 + withinF k 1099511627776 / (most - least + 1) / 2 % 3,
   1 + withinF k 1099511627776 / (most - least + 1) / 2 / 3 % 2)
abbrev wordT (u : Int × Int × Int × Int) : Value := wordV u.1 u.2.1 u.2.2.1 u.2.2.2
theorem wd_WordD (k : Int) (w : World) : Calls Tryd.prog 52 #[.int .i64 k, .int .i64 6, .int .i64 12, .int .i64 2] w fun e w' => e = .returned (wordT (mkW k 6 12 2)) ∧ Below w.heap.size w w' := by
  obtain ⟨g1, g2⟩ := within_in (m := 1099511627776) (by decide) k
  obtain ⟨y, hy⟩ : ∃ y, withinF k 1099511627776 = y := ⟨_, rfl⟩
  have HW : Hid (mkW k 6 12 2 = (6 + y % 7, max (6 + y % 7 - 1 - 2 - y / 7 % 2) 0, 1 + y / 7 / 2 % 3, 1 + y / 7 / 2 / 3 % 2)) := by unfold mkW; rw [hy]; exact rfl
  rw [hy] at g1 g2
  go_enter Tryd.func52, Tryd.ntmps52
  go_wp2_with (go_at_call 16; refine (wd_Within _ _ _ (by decide)).mono ?_; rintro e w' ⟨rfl, rfl⟩)
  refine bodyPost_ret (v := wordT (mkW k 6 12 2)) (by rw [HW.out]; simp [results, Tryd.results52, go_sem] <;> omega) rfl ⟨rfl, ?_⟩
  exact ((Below.refl _ _).alloc (Nat.le_refl _) _).alloc (by simp) _
theorem mkWD_ok (k : Int) : okW (mkW k 6 12 2).1 (mkW k 6 12 2).2.1 (mkW k 6 12 2).2.2.1 (mkW k 6 12 2).2.2.2 = true := by
  obtain ⟨g1, g2⟩ := within_in (m := 1099511627776) (by decide) k
  rw [okW_iff]
  unfold mkW
  dsimp only
  omega
theorem wd_WordC (k : Int) (w : World) : Calls Tryd.prog 52 #[.int .i64 k, .int .i64 6, .int .i64 9, .int .i64 1] w fun e w' => e = .returned (wordT (mkW k 6 9 1)) ∧ Below w.heap.size w w' := by
  obtain ⟨g1, g2⟩ := within_in (m := 1099511627776) (by decide) k
  obtain ⟨y, hy⟩ : ∃ y, withinF k 1099511627776 = y := ⟨_, rfl⟩
  have HW : Hid (mkW k 6 9 1 = (6 + y % 4, max (6 + y % 4 - 1 - 1 - y / 4 % 2) 0, 1 + y / 4 / 2 % 3, 1 + y / 4 / 2 / 3 % 2)) := by unfold mkW; rw [hy]; exact rfl
  rw [hy] at g1 g2
  go_enter Tryd.func52, Tryd.ntmps52
  go_wp2_with (go_at_call 16; refine (wd_Within _ _ _ (by decide)).mono ?_; rintro e w' ⟨rfl, rfl⟩)
  refine bodyPost_ret (v := wordT (mkW k 6 9 1)) (by rw [HW.out]; simp [results, Tryd.results52, go_sem] <;> omega) rfl ⟨rfl, ?_⟩
  exact ((Below.refl _ _).alloc (Nat.le_refl _) _).alloc (by simp) _
theorem mkWC_ok (k : Int) : okW (mkW k 6 9 1).1 (mkW k 6 9 1).2.1 (mkW k 6 9 1).2.2.1 (mkW k 6 9 1).2.2.2 = true := by
  obtain ⟨g1, g2⟩ := within_in (m := 1099511627776) (by decide) k
  rw [okW_iff]
  unfold mkW
  dsimp only
  omega
theorem wd_Data (k : Int) (w : World) : Calls Tryd.prog 28 #[.int .i64 k] w fun e w' => e = .returned (wordT (mkW k 6 12 2)) ∧ Below w.heap.size w w' := by
  go_enter Tryd.func28, Tryd.ntmps28
  go_wp2_with (go_at_call 52; refine (wd_WordD _ _).mono ?_; rintro e w1 ⟨rfl, hb1⟩; obtain ⟨hc1, hf1⟩ := bcell hb1)
  refine bodyPost_ret (v := wordT (mkW k 6 12 2)) (by simp [results, Tryd.results28, go_sem, hc1]) rfl ⟨rfl, ?_⟩
  have hb : Below w.heap.size w w1 := ((Below.refl _ _).alloc (Nat.le_refl _) _).trans (hb1.mono (by simp))
  exact (((hb.setCell (by simp) _).setCell (by simp) _).setCell (by simp) _).setCell (by simp) _
theorem wd_Coef (k : Int) (w : World) : Calls Tryd.prog 29 #[.int .i64 k] w fun e w' => e = .returned (wordT (mkW k 6 9 1)) ∧ Below w.heap.size w w' := by
  go_enter Tryd.func29, Tryd.ntmps29
  go_wp2_with (go_at_call 52; refine (wd_WordC _ _).mono ?_; rintro e w1 ⟨rfl, hb1⟩; obtain ⟨hc1, hf1⟩ := bcell hb1)
  refine bodyPost_ret (v := wordT (mkW k 6 9 1)) (by simp [results, Tryd.results29, go_sem, hc1]) rfl ⟨rfl, ?_⟩
  have hb : Below w.heap.size w w1 := ((Below.refl _ _).alloc (Nat.le_refl _) _).trans (hb1.mono (by simp))
  exact (((hb.setCell (by simp) _).setCell (by simp) _).setCell (by simp) _).setCell (by simp) _
end Go.Proofs.YtpdpcgeeneajjaaDoor
end
section
namespace Go.Proofs.YtpdpcgeeneajjaaDoor
open Go.RowKit
def encR (x : Int × Int) : List Int := [x.1, x.2]
def rgCells (x : Int × Int) : List Value := [.int .i64 x.1, .int .i64 x.2]
def RingsAt (w : World) (A : Option Addr) (l : List (Int × Int)) : Prop := ∀ (k : Nat) x, l[k]? = some x → ∃ ad, A = some ad ∧ ad.spot = none ∧ ad.block < w.heap.size ∧ w.rangeAt ad.block (ad.off + k * 2) (rgCells x) ∧ I64 x.1 ∧ I64 x.2
theorem RingsAt.nil {w : World} {A : Option Addr} : RingsAt w A [] := fun k x h => by simp at h
theorem RingsAt.grow {w w' : World} {A : Option Addr} {l : List (Int × Int)} (h : RingsAt w A l) (hb : Below w.heap.size w w') : RingsAt w' A l := fun k i hk => by
  obtain ⟨ad, e, h1, h2, h3, h4⟩ := h k i hk
  exact ⟨ad, e, h1, Nat.lt_of_lt_of_le h2 hb.size, range_keepI h3 h2 hb, h4⟩
theorem ring_cells {w : World} {x : Int × Int} {ad : Addr} {n : Nat} (hs : ad.spot = none) (hr : w.rangeAt ad.block (ad.off + n) (rgCells x)) :
    w.cell? (ad.add n) = some (.int .i64 x.1) ∧ w.cell? ⟨(ad.add n).block, (ad.add n).off + 1, none⟩ = some (.int .i64 x.2) := by
  rw [add_noneI hs]
  exact ⟨hr 0 _ rfl, hr 1 _ rfl⟩
theorem flatR_get {l : List (Int × Int)} {k j : Nat} {x : Int × Int} (h : l[k]? = some x) (hj : j < 2) : ((l.flatMap encR).map (Value.int .i64))[k * 2 + j]? = (rgCells x)[j]? := by
  rw [List.getElem?_map, flat_get (enc := encR) (sz := 2) (fun _ => rfl) l k j x h hj, ← List.getElem?_map]; rfl
theorem RingsAt.row {w : World} {A : Option Addr} {l : List (Int × Int)} (h : RingsAt w A l) : ∀ j u, ((l.flatMap encR).map (Value.int .i64))[j]? = some u → ∃ ad, A = some ad ∧ w.cell? (ad.add j) = some u := fun j u hu => by
  have hj : j < l.length * 2 := by
    have := (List.getElem?_eq_some_iff.1 hu).1
    rw [List.length_map, flat_length (enc := encR) (sz := 2) (fun _ => rfl)] at this
    exact this
  have hk : j / 2 < l.length := by omega
  have ht : l[j / 2]? = some l[j / 2] := List.getElem?_eq_getElem hk
  obtain ⟨ad, e, hs, -, hr, -⟩ := h _ _ ht
  refine ⟨ad, e, ?_⟩
  have ej : j = j / 2 * 2 + j % 2 := by omega
  rw [ej, flatR_get ht (by omega)] at hu
  rw [add_noneI hs, show ad.off + j = ad.off + j / 2 * 2 + j % 2 by omega]
  exact hr (j % 2) u hu
theorem RingsAt.grown {w w' : World} {A : Option Addr} {l : List (Int × Int)} {r : Option Nat} (h : RingsAt w A l) (hg : w.grownBy w' r) (hn : ∀ a, A = some a → some a.block ≠ r) : RingsAt w' A l := fun k i hk => by
  obtain ⟨ad, e, h1, h2, h3, h4⟩ := h k i hk
  exact ⟨ad, e, h1, Nat.lt_of_lt_of_le h2 hg.size, fun j v hj => hg.cell (h3 j v hj) (hn ad e), h4⟩
theorem RingsAt.ok {w : World} {A : Option Addr} {l : List (Int × Int)} (h : RingsAt w A l) : ∀ x ∈ l, I64 x.1 ∧ I64 x.2 := fun x hx => by
  obtain ⟨k, hk, rfl⟩ := List.getElem_of_mem hx
  obtain ⟨ad, -, -, -, -, h4⟩ := h k _ (List.getElem?_eq_getElem hk)
  exact h4
theorem info_ring : (Tryd.prog.info? 68).map (fun i => (i.zero, i.size, i.bytes)) = some (some (.agg #[.int .i64 0, .int .i64 0]), 2, 16) := by kernel_rfl
theorem und_ring : Tryd.prog.underlying 37 = some (.slice 68) := Tryd.underlying37
theorem size_ring : (Tryd.prog.info? 68).map (·.size) = some 2 := by kernel_rfl
theorem built_ring1 (x : Int × Int) : builtS Tryd.prog 68 1 [(0, .agg #[.int .i64 x.1, .int .i64 x.2])] = some ((rgCells x).toArray) := by kernel_rfl
def OwnRg (base : Nat) (w : World) (v : Value) (l : List (Int × Int)) : Prop := w.ownsRow base 68 2 v l.length ((l.flatMap encR).map (Value.int .i64)) ∧ ∀ i ∈ l, I64 i.1 ∧ I64 i.2
theorem OwnRg.nil {base : Nat} {w : World} : OwnRg base w (.slice none 0 0) [] := ⟨World.ownsRow_nil _ _ _ _, by simp⟩
theorem OwnRg.grow {base : Nat} {w w' : World} {v : Value} {l : List (Int × Int)} (h : OwnRg base w v l) (hb : Below w.heap.size w w') : OwnRg base w' v l := ⟨own_grow h.1 hb, h.2⟩
theorem OwnRg.base {base base' : Nat} {w : World} {v : Value} {l : List (Int × Int)} (h : OwnRg base w v l) (hb : base' ≤ base) : OwnRg base' w v l := ⟨own_base h.1 hb, h.2⟩
theorem OwnRg.store {base g k : Nat} {w : World} {v u : Value} {l : List (Int × Int)} (h : OwnRg base w v l) (hg : g < base) : OwnRg base (w.setCell ⟨g, k, none⟩ u) v l := ⟨own_store h.1 hg, h.2⟩
theorem OwnRg.ge {base : Nat} {w : World} {v : Value} {l : List (Int × Int)} (h : OwnRg base w v l) : ∀ k, v.ownBlock = some k → base ≤ k := fun k hk => (h.1.lt k hk).1
theorem OwnRg.form {base : Nat} {w : World} {v : Value} {l : List (Int × Int)} (h : OwnRg base w v l) : ∃ A c, v = .slice A l.length c ∧ l.length ≤ c ∧ RingsAt w A l := by
  obtain ⟨A, c, rfl, hc⟩ := own_form h.1
  refine ⟨A, c, rfl, hc, fun k i hk => ?_⟩
  have hc4 : ∀ j v, (rgCells i)[j]? = some v → ∃ g, A = some ⟨g, 0, none⟩ ∧ g < w.heap.size ∧ w.cell? ⟨g, k * 2 + j, none⟩ = some v := fun j v hj => by
    have hj4 : j < 2 := (List.getElem?_eq_some_iff.1 hj).1
    obtain ⟨g, e0, hg, d0⟩ := own_cells h.1 (k := k * 2 + j) (v := v) (by rw [flatR_get hk hj4]; exact hj)
    exact ⟨g, e0, hg, d0⟩
  obtain ⟨g, e0, hg, d0⟩ := hc4 0 _ rfl
  refine ⟨⟨g, 0, none⟩, e0, rfl, hg, fun j v hj => ?_, h.2 i (List.mem_of_getElem? hk)⟩
  obtain ⟨g1, e1, hg1, d1⟩ := hc4 j v hj
  rw [e0] at e1
  injection e1 with e1; injection e1 with e1
  subst e1
  rw [show (⟨g, 0, none⟩ : Addr).off + k * 2 + j = k * 2 + j by show 0 + k * 2 + j = _; omega]
  exact d1
theorem OwnRg.single {w : World} {i : Int × Int} (hi : I64 i.1 ∧ I64 i.2) : OwnRg w.heap.size (w.alloc (.cells (rgCells i).toArray 68)) (.slice (some ⟨w.heap.size, 0, none⟩) 1 1) [i] :=
  ⟨World.ownsRow_lit w (rgCells i).toArray 1 (Nat.le_refl _) (by unfold maxLen; omega) (by kernel_rfl), fun x hx => by rw [List.mem_singleton.1 hx]; exact hi⟩
theorem app_ring {ops : Array Oper} {rest : List Oper} {o : Oper} {a : Act} {Q : Exit → Act → World → Prop} (w : World) (hg : o.guard = none) (s x : Operand) (ho : o.op = .call { callee := .builtin .append, args := #[s, x], argTypes := #[37, 37] })
    (base : Nat) {v : Value} {l m : List (Int × Int)} {A : Option Addr} {n c : Nat} (hs : a.eval s = v) (hx : a.eval x = .slice A n c) (hown : OwnRg base w v l) (hI : RingsAt w A m) (hm : m.length = n) (hn : l.length + n ≤ 100000000) (hbase : base ≤ w.heap.size)
    (h : ∀ v' w', OwnRg base w' v' (l ++ m) → w.grownBy w' v.ownBlock → wpList Tryd.prog ops Q rest (a.put o.dst v') w') : wpList Tryd.prog ops Q (o :: rest) a w := by
  subst hm
  refine app_row w hg s x 37 68 (.agg #[.int .i64 0, .int .i64 0]) 2 16 ho und_ring info_ring rfl (by decide) (by decide) base hs hx hown.1 (ys := (m.flatMap encR).map (Value.int .i64)) ?_ hI.row nums_one hn hbase fun v' w' h1 h2 h3 => h v' w' ⟨?_, ?_⟩ h2
  · rw [List.length_map, flat_length (enc := encR) (sz := 2) (fun _ => rfl)]
  · rw [List.flatMap_append, List.map_append, List.length_append]; exact h1
  · intro i hi
    rcases List.mem_append.1 hi with hi | hi
    · exact hown.2 i hi
    · exact hI.ok i hi
theorem bld_ring1 {ops : Array Oper} {rest : List Oper} {o : Oper} {a : Act} {Q : Exit → Act → World → Prop} {w : World} {i : Int × Int} (hgd : o.guard = none) (x : Operand) (ho : o.op = .buildSlice 37 1 #[(0, x)]) (hx : a.eval x = .agg #[.int .i64 i.1, .int .i64 i.2])
    (h : wpList Tryd.prog ops Q rest (a.put o.dst (.slice (some ⟨w.heap.size, 0, none⟩) 1 1)) (w.alloc (.cells (rgCells i).toArray 68))) : wpList Tryd.prog ops Q (o :: rest) a w :=
  wp_bldS hgd 37 68 1 _ ho und_ring 2 size_ring (by decide) (by decide) _ rfl (by show builtS Tryd.prog 68 1 [(0, a.eval x)] = _; rw [hx]; exact built_ring1 i) h
def ringsF (rs : List Int) (n : Nat) : List (Int × Int) := (List.range n).map fun (k : Nat) => (20 + 10 * (k : Int), 1 + withinF (rs.getD k 0) 6)
theorem ringsF_succ (rs : List Int) (n : Nat) : ringsF rs (n + 1) = ringsF rs n ++ [(20 + 10 * (n : Int), 1 + withinF (rs.getD n 0) 6)] := by simp [ringsF, List.range_succ]
theorem ringsF_length (rs : List Int) (n : Nat) : (ringsF rs n).length = n := by simp [ringsF]
def insF (rg : List (Int × Int)) (op a b y : Int) : Ins :=
  if op = 2 then ⟨2, a % 4, 0, y⟩ else if op = 3 then ⟨3, a % 10, 0, y⟩
  else if op = 4 then (if rg.length = 0 then ⟨1, 0, 0, 0⟩ else ⟨4, a % rg.length, a / 10 % (rg.getD (a % rg.length).toNat (0, 1)).2, y⟩)
  else if op = 8 then (if rg.length = 0 then ⟨1, 0, 0, 0⟩ else ⟨8, a % rg.length, b % 4, 0⟩)
  else if op = 5 ∨ op = 9 ∨ op = 10 then ⟨op, a % 4, 0, 0⟩ else if op = 6 ∨ op = 7 then ⟨op, a % 4, b % 10, 0⟩ else if op = 11 then ⟨11, a % 4, b % 4, 0⟩ else ⟨op, 0, 0, 0⟩
def insK (c0 c1 c2 c3 : Int) (rg : List (Int × Int)) (os fs : List Int) (k : Nat) : Ins :=
  insF rg (1 + withinF (os.getD k 0) 11) (withinF (atF fs (2 * (k : Int))) 1000) (withinF (atF fs (2 * (k : Int) + 1)) 1048576) (wordF c0 c1 c2 c3 (withinF (atF fs (2 * (k : Int) + 1)) 1048576 - 524288))
def codeK (c0 c1 c2 c3 : Int) (rg : List (Int × Int)) (os fs : List Int) (n : Nat) : List Ins := (List.range n).map (insK c0 c1 c2 c3 rg os fs)
theorem codeK_succ (c0 c1 c2 c3 : Int) (rg : List (Int × Int)) (os fs : List Int) (n : Nat) : codeK c0 c1 c2 c3 rg os fs (n + 1) = codeK c0 c1 c2 c3 rg os fs n ++ [insK c0 c1 c2 c3 rg os fs n] := by simp [codeK, List.range_succ]
theorem codeK_length (c0 c1 c2 c3 : Int) (rg : List (Int × Int)) (os fs : List Int) (n : Nat) : (codeK c0 c1 c2 c3 rg os fs n).length = n := by simp [codeK]
structure PrgD where
  (d0 d1 d2 d3 c0 c1 c2 c3 : Int)
  (rg : List (Int × Int))
  (code : List Ins)
def prgF (dn cn : Int) (rs os fs : List Int) (most : Nat) : PrgD :=
  let rg := ringsF rs (min rs.length 3)
  ⟨(mkW dn 6 12 2).1, (mkW dn 6 12 2).2.1, (mkW dn 6 12 2).2.2.1, (mkW dn 6 12 2).2.2.2, (mkW cn 6 9 1).1, (mkW cn 6 9 1).2.1, (mkW cn 6 9 1).2.2.1, (mkW cn 6 9 1).2.2.2, rg,
   codeK (mkW cn 6 9 1).1 (mkW cn 6 9 1).2.1 (mkW cn 6 9 1).2.2.1 (mkW cn 6 9 1).2.2.2 rg os fs (min os.length most) ++ [⟨0, 0, 0, 0⟩]⟩
structure PrgA where
  (d : PrgD)
  (RA CA : Option Addr)
  (rc cc : Nat)
def PrgA.lst (u : PrgA) : List Value := [.int .i64 u.d.d0, .int .i64 u.d.d1, .int .i64 u.d.d2, .int .i64 u.d.d3, .int .i64 u.d.c0, .int .i64 u.d.c1, .int .i64 u.d.c2, .int .i64 u.d.c3, .slice u.RA u.d.rg.length u.rc, .slice u.CA u.d.code.length u.cc]
def PrgA.v (u : PrgA) : Value := .agg u.lst.toArray
def PrgAt (w : World) (u : PrgA) : Prop := RingsAt w u.RA u.d.rg ∧ InsAt w u.CA u.d.code
theorem PrgAt.grow {w w' : World} {u : PrgA} (h : PrgAt w u) (hb : Below w.heap.size w w') : PrgAt w' u := ⟨h.1.grow hb, h.2.grow hb⟩
theorem boxI_a {w : World} {g : Nat} {op a b m v : Int} (h : Box w g (⟨op, a, b, m⟩ : Ins).cells) : Box (w.setCell ⟨g, 1, none⟩ (.int .i64 v)) g (⟨op, v, b, m⟩ : Ins).cells := h.set (k := 1) (by show 1 < 4; omega)
theorem boxI_b {w : World} {g : Nat} {op a b m v : Int} (h : Box w g (⟨op, a, b, m⟩ : Ins).cells) : Box (w.setCell ⟨g, 2, none⟩ (.int .i64 v)) g (⟨op, a, v, m⟩ : Ins).cells := h.set (k := 2) (by show 2 < 4; omega)
theorem boxI_m {w : World} {g : Nat} {op a b m v : Int} (h : Box w g (⟨op, a, b, m⟩ : Ins).cells) : Box (w.setCell ⟨g, 3, none⟩ (.int .i64 v)) g (⟨op, a, b, v⟩ : Ins).cells := h.set (k := 3) (by show 3 < 4; omega)
theorem boxI_all {w : World} {g : Nat} {op a b m op' a' b' m' : Int} (h : Box w g (⟨op, a, b, m⟩ : Ins).cells) : Box ((((w.setCell ⟨g, 0, none⟩ (.int .i64 op')).setCell ⟨g, 1, none⟩ (.int .i64 a')).setCell ⟨g, 2, none⟩ (.int .i64 b')).setCell ⟨g, 3, none⟩ (.int .i64 m')) g (⟨op', a', b', m'⟩ : Ins).cells :=
  boxI_m (boxI_b (boxI_a (op := op') (h.set (k := 0) (by show 0 < 4; omega))))
theorem insF_1 (rg : List (Int × Int)) (a b y : Int) : insF rg 1 a b y = ⟨1, 0, 0, 0⟩ := by simp [insF]
theorem insF_2 (rg : List (Int × Int)) (a b y : Int) : insF rg 2 a b y = ⟨2, a % 4, 0, y⟩ := by simp [insF]
theorem insF_3 (rg : List (Int × Int)) (a b y : Int) : insF rg 3 a b y = ⟨3, a % 10, 0, y⟩ := by simp [insF]
theorem insF_40 {rg : List (Int × Int)} (a b y : Int) (h : rg.length = 0) : insF rg 4 a b y = ⟨1, 0, 0, 0⟩ := by simp [insF, h]
theorem insF_80 {rg : List (Int × Int)} (a b y : Int) (h : rg.length = 0) : insF rg 8 a b y = ⟨1, 0, 0, 0⟩ := by simp [insF, h]
theorem insF_4 {rg : List (Int × Int)} {a b y : Int} {m n : Nat} {x : Int × Int} (h : rg.length = n) (hn : 0 < n) (hm : a % (n : Int) = (m : Int)) (hx : rg[m]? = some x) : insF rg 4 a b y = ⟨4, m, a / 10 % x.2, y⟩ := by
  have h0 : rg ≠ [] := by intro e; subst e; simp at h; omega
  have h1 : n ≠ 0 := by omega
  simp [insF, h0, h1, h, hm, List.getD_eq_getElem?_getD, hx]
theorem insF_8 {rg : List (Int × Int)} {a b y : Int} {m n : Nat} (h : rg.length = n) (hn : 0 < n) (hm : a % (n : Int) = (m : Int)) : insF rg 8 a b y = ⟨8, m, b % 4, 0⟩ := by
  have h0 : rg ≠ [] := by intro e; subst e; simp at h; omega
  have h1 : n ≠ 0 := by omega
  simp [insF, h0, h1, h, hm]
theorem insF_5 (rg : List (Int × Int)) (a b y : Int) : insF rg 5 a b y = ⟨5, a % 4, 0, 0⟩ := by simp [insF]
theorem insF_6 (rg : List (Int × Int)) (a b y : Int) : insF rg 6 a b y = ⟨6, a % 4, b % 10, 0⟩ := by simp [insF]
theorem insF_7 (rg : List (Int × Int)) (a b y : Int) : insF rg 7 a b y = ⟨7, a % 4, b % 10, 0⟩ := by simp [insF]
theorem insF_9 (rg : List (Int × Int)) (a b y : Int) : insF rg 9 a b y = ⟨9, a % 4, 0, 0⟩ := by simp [insF]
theorem insF_10 (rg : List (Int × Int)) (a b y : Int) : insF rg 10 a b y = ⟨10, a % 4, 0, 0⟩ := by simp [insF]
theorem insF_11 (rg : List (Int × Int)) (a b y : Int) : insF rg 11 a b y = ⟨11, a % 4, b % 4, 0⟩ := by simp [insF]
theorem insF_ok {rg : List (Int × Int)} {op a b y : Int} (ho : 1 ≤ op ∧ op ≤ 11) (ha : 0 ≤ a ∧ a < 1000) (hb : 0 ≤ b ∧ b < 1048576) (hy : I64 y) (hg : rg.length ≤ 3) (h6 : ∀ x ∈ rg, 1 ≤ x.2 ∧ x.2 ≤ 6) : (insF rg op a b y).ok := by
  obtain ⟨y1, y2⟩ := hy
  have hI : ∀ v : Int, -1000000 ≤ v → v ≤ 1000000 → I64 v := fun v h1 h2 => ⟨by omega, by omega⟩
  have hm : ∀ n : Int, 0 < n → n ≤ 1000000 → I64 (a % n) := fun n h1 h2 => by
    have := Int.emod_nonneg a (show n ≠ 0 by omega)
    have := Int.emod_lt_of_pos a h1
    exact hI _ (by omega) (by omega)
  have hb4 : I64 (b % 4) := hI _ (by omega) (by omega)
  have hb10 : I64 (b % 10) := hI _ (by omega) (by omega)
  have h0 : I64 0 := hI _ (by omega) (by omega)
  have hop : I64 op := hI _ (by omega) (by omega)
  have q1 : I64 1 := hI _ (by omega) (by omega)
  have q2 : I64 2 := hI _ (by omega) (by omega)
  have q3 : I64 3 := hI _ (by omega) (by omega)
  have q4 : I64 4 := hI _ (by omega) (by omega)
  have q8 : I64 8 := hI _ (by omega) (by omega)
  have q11 : I64 11 := hI _ (by omega) (by omega)
  unfold insF Ins.ok
  split
  · exact ⟨q2, hm 4 (by omega) (by omega), h0, y1, y2⟩
  split
  · exact ⟨q3, hm 10 (by omega) (by omega), h0, y1, y2⟩
  split
  · split
    · exact ⟨q1, h0, h0, h0⟩
    · refine ⟨q4, hm _ (by omega) (by omega), ?_, y1, y2⟩
      have hx : ∃ x : Int × Int, rg.getD (a % rg.length).toNat (0, 1) = x ∧ 1 ≤ x.2 ∧ x.2 ≤ 6 := by
        rw [List.getD_eq_getElem?_getD]
        cases e : rg[(a % rg.length).toNat]? with
        | none => exact ⟨_, rfl, by decide, by decide⟩
        | some x => exact ⟨x, rfl, h6 x (List.mem_of_getElem? e)⟩
      obtain ⟨x, ex, x1, x2⟩ := hx
      show I64 (a / 10 % (rg.getD (a % rg.length).toNat (0, 1)).2)
      rw [ex]
      have := Int.emod_nonneg (a / 10) (show x.2 ≠ 0 by omega)
      have := Int.emod_lt_of_pos (a / 10) (show 0 < x.2 by omega)
      exact hI _ (by omega) (by omega)
  split
  · split
    · exact ⟨q1, h0, h0, h0⟩
    · exact ⟨q8, hm _ (by omega) (by omega), hb4, h0⟩
  split
  · exact ⟨hop, hm 4 (by omega) (by omega), h0, h0⟩
  split
  · exact ⟨hop, hm 4 (by omega) (by omega), hb10, h0⟩
  split
  · exact ⟨q11, hm 4 (by omega) (by omega), hb4, h0⟩
  · exact ⟨hop, h0, h0, h0⟩
end Go.Proofs.YtpdpcgeeneajjaaDoor
end
section
namespace Go.Proofs.YtpdpcgeeneajjaaDoor
open Go.RowKit
theorem resC {fn : Func} {t : Tmp} {T : TypeId} (h : fn.results = #[.cell t T]) (tmps : Array Value) (P : Program) (w : World) {g : Nat} {v : Value} (hp : tmps.getD t undef = .pointer (some ⟨g, 0, none⟩)) (hv : (loadVar T ⟨g, 0, none⟩).run P w = .ok v w) : (results fn tmps).run P w = .ok v w := by
  have hp' : tmps[t]?.getD undef = .pointer (some ⟨g, 0, none⟩) := by rw [← Array.getD_eq_getD_getElem?]; exact hp
  simp [results, h, hp', hv, asAddr]
theorem resCT {fn : Func} {t x : Tmp} {T : TypeId} (h : fn.results = #[.cell t T, .tmp x]) (tmps : Array Value) (P : Program) (w : World) {g : Nat} {v : Value} (hp : tmps.getD t undef = .pointer (some ⟨g, 0, none⟩)) (hv : (loadVar T ⟨g, 0, none⟩).run P w = .ok v w) : (results fn tmps).run P w = .ok (.tuple #[v, tmps.getD x undef]) w := by
  have hp' : tmps[t]?.getD undef = .pointer (some ⟨g, 0, none⟩) := by rw [← Array.getD_eq_getD_getElem?]; exact hp
  simp [results, h, hp', hv, asAddr]
theorem res_box {w : World} {g : Nat} {cs : List Value} (ty : TypeId) (hb : Box w g cs) (d : TypeDesc) (hu : Tryd.prog.underlying ty = some d) (hd : d.isRow = true) (hi : (Tryd.prog.info? ty).map (·.size) = some cs.length) : (loadVar ty ⟨g, 0, none⟩).run Tryd.prog w = .ok (.agg cs.toArray) w :=
  run_loadVar_mid w g 0 _ cs d (hb.range (fun j v h => by rw [Nat.zero_add]; exact h)) hu hd hi
theorem own_und {w w' : World} {base n size b : Nat} {e : TypeId} {v : Value} {xs : List Value} (h : w.ownsRow base e size v n xs) (hb : Below b w w') (hv : ∀ q, v.ownBlock = some q → q < b) : w'.ownsRow base e size v n xs := by
  obtain ⟨h1, h2 | ⟨g, cap, cur, hv', hg, hh, r⟩⟩ := h
  · exact ⟨h1, .inl h2⟩
  · have hlt : g < b := hv g (by rw [hv']; rfl)
    exact ⟨h1, .inr ⟨g, cap, cur, hv', hg, (hb.block g hlt).trans hh, r⟩⟩
end Go.Proofs.YtpdpcgeeneajjaaDoor
end
