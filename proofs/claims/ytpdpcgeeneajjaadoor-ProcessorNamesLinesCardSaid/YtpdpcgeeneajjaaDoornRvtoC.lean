/- Several texts in one: Rv L4 E7 E11 E12 E13 E15 U4 E16 C. -/
import Derived.Test.YtpdpcgeeneajjaaDoornL2toRu
import Derived.Test.YtpdpcgeeneajjaaDoornE3toBu
import Derived.Laws.EntriesVeiled
import Derived.Test.YtpdpcgeeneajjaaDoornPltoG4
import Derived.Maps.AppendAt
import Derived.Deep.RegionHeld3
import Derived.Test.YtpdpcgeeneajjaaDoornVbtoU3
import Derived.Lib.MinMax
import Derived.OwnWalk
set_option linter.unusedVariables false
set_option linter.unusedSimpArgs false
section
namespace Go.Proofs.YtpdpcgeeneajjaaDoor
open Go.RowKit
theorem run_ixS {l : List UInt8} {n : Nat} {b : UInt8} (hb : l[n]? = some b) (w : World) : (Instr.index 9 (.string (str l)) (.int .i64 (n : Int))).run Tryd.prog w = .ok (.int .u8 (b.toNat : Int)) w := by
  have hlt : n < l.length := (List.getElem?_eq_some_iff.1 hb).1
  rw [run_index_string w 9 (str l) .i64 n Tryd.underlying9, dif_pos ⟨by omega, by rw [str_size]; omega⟩]
  have e : ∀ h : ((n : Int)).toNat < (str l).size, (str l)[((n : Int)).toNat]'h = b := fun h => by
    have h2 : l[n]'hlt = b := by rw [List.getElem?_eq_getElem hlt] at hb; injection hb
    exact h2
  rw [e]
end Go.Proofs.YtpdpcgeeneajjaaDoor
end
section
namespace Go.Proofs.YtpdpcgeeneajjaaDoor
open Go.RowKit
def fmtL (l : List Ins) : List UInt8 := l.flatMap fun i => lineB i ++ [10]
def fmtB (l : List Ins) : List UInt8 := if encE l = 0 then fmtL l else []
theorem fmtL_len : ∀ {l : List Ins}, (∀ i ∈ l, i.ok) → (fmtL l).length ≤ 81 * l.length
  | [], _ => by simp [fmtL]
  | i :: l, h => by
    have h1 := fmtL_len fun j hj => h j (List.mem_cons_of_mem _ hj)
    have h2 := lineB_len (h i (List.mem_cons_self ..))
    unfold fmtL at h1 ⊢
    rw [List.flatMap_cons, List.length_append, List.length_append, List.length_cons, List.length_cons, List.length_nil]
    omega
theorem fmtL_succ {l : List Ins} {k : Nat} {i : Ins} (h : l[k]? = some i) : fmtL (l.take (k + 1)) = fmtL (l.take k) ++ lineB i ++ [10] := by
  unfold fmtL
  rw [List.take_add_one, h]
  simp
theorem take_ok {l : List Ins} (h : ∀ i ∈ l, i.ok) (k : Nat) : ∀ i ∈ l.take k, i.ok := fun i hi => h i (List.mem_of_mem_take hi)
theorem IsBu.keep {B b : Nat} {bs : List Value} {w w' : World} (h : IsBu B b bs w) (hb : Below w.heap.size w w') : IsBu B b bs w' := by
  rcases h with h | h
  · have hlt := h.lt
    obtain ⟨h1, v, h2, h3, h4⟩ := h
    exact .inl ⟨h1, v, (hb.block b hlt).trans h2, own_grow h3 hb, h4⟩
  · have hlt := h.lt
    obtain ⟨h1, v, h2, h3, h4⟩ := h
    exact .inr ⟨h1, v, (hb.block b hlt).trans h2, own_grow h3 hb, h4⟩
set_option maxRecDepth 100000 in
set_option maxHeartbeats 4000000 in
theorem pr_Format (A : Option Addr) (n c : Nat) (l : List Ins) (w : World) (hf : PrAt w) (h : InsAt w A l) (hn : l.length = n) (h9 : n ≤ 9223372036854775807) : Calls Tryd.prog 14 #[.slice A n c] w fun e w' => e = .returned (.tuple #[.string (str (fmtB l)), .int .i64 (encE l)]) ∧ Below w.heap.size w w' := by
  have hallok := h.ok
  have HI := Lib.hid h
  have HN := Lib.hid hn
  have HF := Lib.hid hf
  have HOK := Lib.hid hallok
  clear h hn hf hallok
  by_cases h0 : (512 : Int) < (n : Int)
  · have e1 : encE l = 5 := by unfold encE; rw [if_pos (by rw [HN.out]; omega)]
    have e2 : fmtB l = [] := by unfold fmtB; rw [e1]; rfl
    rw [e1, e2]
    clear e1 e2
    go_enter Tryd.func14, Tryd.ntmps14
    go_wp2_with fail
    go_ret2
    exact ⟨rfl, Below.refl _ _⟩
  · have e1 : encE l = if l.all Ins.formed then 0 else 21 := by unfold encE; rw [if_neg (by rw [HN.out]; omega)]
    have HE := Lib.hid e1
    clear e1
    have hn512 : (n : Int) ≤ 512 := by omega
    obtain ⟨sf, hsf⟩ : ∃ s, str (fmtB l) = s := ⟨_, rfl⟩
    obtain ⟨E, hE⟩ : ∃ E, encE l = E := ⟨_, rfl⟩
    rw [hsf, hE]
    have HSF := Lib.hid hsf
    have HEE := Lib.hid hE
    clear hsf hE
    go_enter Tryd.func14, Tryd.ntmps14
    go_upto_region 4 with fail
    have HB1 : Hid (Below w.heap.size w (w.alloc (.cells #[.pointer none, .slice none 0 0] 74))) := Lib.hid ((Below.refl _ _).alloc (Nat.le_refl _) _)
    have HU1 : Hid (IsBu w.heap.size w.heap.size [] (w.alloc (.cells #[.pointer none, .slice none 0 0] 74))) := Lib.hid (Lib.fresh_isBuilder _ _ w)
    generalize w.alloc (.cells #[.pointer none, .slice none 0 0] 74) = w1 at HB1 HU1 ⊢
    go_wp2_with fail
    go_loopw [12] (fun i wr => ∃ (k : Nat), k ≤ n ∧ i = .int .i64 k ∧ Hid ((l.take k).all Ins.formed = true) ∧ Hid (IsBu w.heap.size w.heap.size (Lib.byteCells (fmtL (l.take k))) wr) ∧ Hid (Below w.heap.size w wr)) (fun i _ => n - (intOf i).toNat)
    case atStart => exact ⟨0, Nat.zero_le _, rfl, Lib.hid rfl, HU1, HB1⟩
    case round =>
      obtain ⟨k, hk, rfl, HT, HU, HB⟩ := hrel
      by_cases hlt : k < n
      · obtain ⟨i, hi⟩ : ∃ i, l[k]? = some i := ⟨_, List.getElem?_eq_getElem (by rw [HN.out]; exact hlt)⟩
        obtain ⟨ad, rfl, hs, hb, hr, hok⟩ := (HI.out.grow HB.out) k i hi
        have HS := Lib.hid hs
        have HR := Lib.hid hr
        have q1 : (0 : Int) ≤ (k : Int) := by omega
        have q2 : (k : Int) < (n : Int) := by omega
        have wk : IntKind.i64.wrap ((k : Int) + 1) = ((k + 1 : Nat) : Int) := (IntWalk.i64_in _ (by omega)).trans (by omega)
        have HK := Lib.hid hi
        obtain ⟨x, hx⟩ : ∃ x, i.formed = x := ⟨_, rfl⟩
        have CF : Hid (∀ w1, Below wr.heap.size wr w1 → Calls Tryd.prog 21 #[i.v] w1 fun e w' => e = .returned (.bool x) ∧ Below w1.heap.size w1 w') := Lib.hid fun w1 hb => by
          have := pr_formed i w1 ((HF.out.forms.grow HB.out).grow hb)
          rw [hx] at this; exact this
        have CL : Hid (x = true → ∀ w1, Below wr.heap.size wr w1 → Calls Tryd.prog 33 #[i.v] w1 fun e w' => e = .returned (.string (str (lineB i))) ∧ Below w1.heap.size w1 w') := Lib.hid fun hxt w1 hb => pr_line i w1 ((HF.out.grow HB.out).grow hb) hok (hx.trans hxt)
        have hll : (fmtL (l.take k)).length ≤ 41472 := by
          have h1 := fmtL_len (take_ok HOK.out k)
          rw [List.length_take, HN.out] at h1
          have h2 : min k n ≤ 512 := by omega
          omega
        have hli := lineB_len hok
        have HLL : Hid ((Lib.byteCells (fmtL (l.take k))).length + (str (lineB i)).size ≤ 140737488355328 ∧ (Lib.byteCells (fmtL (l.take k)) ++ Lib.strCells (str (lineB i))).length + 1 ≤ 140737488355328) := Lib.hid (by
          rw [List.length_append, Lib.byteCells_length, Lib.strCells_length, str_size]; omega)
        have HCC : Hid (Lib.byteCells (fmtL (l.take k)) ++ Lib.strCells (str (lineB i)) ++ [.int .u8 10] = Lib.byteCells (fmtL (l.take (k + 1)))) := Lib.hid (by
          rw [fmtL_succ hi, Lib.byteCells_append, Lib.byteCells_append]; rfl)
        have HX := Lib.hid hx
        clear hs hr hb hi hx hok hll hli
        go_upto_region 7 with (first
          | ((with_reducible show wpList _ _ _ (Oper.mk _ (.load _ _) _ _ _ _ :: _) _ _); refine ld_insA HS.out HR.out rfl _ rfl rfl ?_)
          | ((with_reducible show wpList _ _ _ (Oper.mk _ (.store _ _ _) _ _ _ _ :: _) _ _); refine st_ins (w := wr.alloc (.cells Ins.zero.cells.toArray 50)) (g := wr.heap.size) (i := Ins.zero) (j := i) (Box.new rfl) rfl _ _ rfl rfl rfl ?_; intro W2 b2 p2))
        have hb2 := put_facts ((Below.refl wr.heap.size wr).alloc (Nat.le_refl _) (.cells Ins.zero.cells.toArray 50)) (Nat.le_refl _) p2
        generalize wr.heap.size = g6 at b2 ⊢
        cases x with
        | false =>
          have hall : l.all Ins.formed = false := all_no HK.out HX.out
          go_wp2_with (first
            | ((with_reducible show wpList _ _ _ (Oper.mk _ (.load _ _) _ _ _ _ :: _) _ _); refine ld_ins b2 rfl _ rfl rfl ?_)
            | (go_at_call 21; (with_reducible refine (CF.out _ hb2).mono ?_); rintro e1 w3 ⟨rfl, hb3⟩))
          go_ret2
          have he : E = 21 := by rw [← HEE.out, HE.out, hall]; rfl
          have hf0 : fmtB l = [] := by unfold fmtB; rw [HE.out, hall]; rfl
          subst he
          refine ⟨?_, below_then HB.out (below_then hb2 hb3)⟩
          rw [← HSF.out, hf0]; rfl
        | true =>
          go_upto_region 9 with (first
            | ((with_reducible show wpList _ _ _ (Oper.mk _ (.load _ _) _ _ _ _ :: _) _ _); refine ld_ins b2 rfl _ rfl rfl ?_)
            | (go_at_call 21; (with_reducible refine (CF.out _ hb2).mono ?_); rintro e1 w3 ⟨rfl, hb3⟩))
          have b3 := b2.keep hb3
          have hb13 := below_then hb2 hb3
          have HU3 : Hid (IsBu w.heap.size w.heap.size (Lib.byteCells (fmtL (l.take k))) w3) := Lib.hid (HU.out.keep hb13)
          have HB3 : Hid (Below w.heap.size w w3) := Lib.hid (below_then HB.out hb13)
          go_upto_region 10 with (first
            | ((with_reducible show wpList _ _ _ (Oper.mk _ (.load _ _) _ _ _ _ :: _) _ _); refine ld_ins b3 rfl _ rfl rfl ?_)
            | (go_at_call 33; (with_reducible refine (CL.out (by trivial) _ hb13).mono ?_); rintro e2 w4 ⟨rfl, hb4⟩)
            | (go_at_call 32; (with_reducible refine (bu_str w.heap.size w.heap.size _ _ _ (HU3.out.keep hb4) HLL.out.1 (below_then HB3.out hb4).size).mono ?_); rintro e3 w5 ⟨rfl, hu5, hb5⟩))
          have HB5 : Hid (Below w.heap.size w w5) := Lib.hid ((below_then HB3.out hb4).trans hb5)
          have HU5 := Lib.hid hu5
          clear hb4 hb5 hu5 b2 b3 hb2 hb3 hb13 p2
          go_wp2_with (go_at_call 34; (with_reducible refine (bu_byte w.heap.size w.heap.size _ _ _ HU5.out HLL.out.2 HB5.out.size).mono ?_); rintro e4 w6 ⟨rfl, hu6, hb6⟩)
          go_roundw
          case rel => exact ⟨k + 1, by omega, rfl, Lib.hid (by show _ = _; rw [take_succ_all HK.out, HT.out, HX.out]; rfl), Lib.hid (HCC.out ▸ hu6), Lib.hid (HB5.out.trans hb6)⟩
          case measure => simp [intOf]; omega
      · obtain rfl : k = n := by omega
        have hlo : ¬ (k : Int) < (k : Int) := by omega
        have hall : l.all Ins.formed = true := by have := HT.out; rwa [← HN.out, List.take_length] at this
        have he : E = 0 := by rw [← HEE.out, HE.out, hall]; rfl
        have hu := HU.out
        rw [← HN.out, List.take_length] at hu
        have HUE := Lib.hid hu
        have HFE : Hid (str (fmtL l) = sf) := Lib.hid (by rw [← HSF.out]; unfold fmtB; rw [HEE.out, if_pos he])
        clear hu hall
        go_wp2_with (go_at_call 35; (with_reducible refine (Tryd.Builder_String_any w.heap.size w.heap.size (fmtL l) _ HUE.out HB.out.size).mono ?_); rintro e1 w2 ⟨rfl, hb2⟩)
        go_ret2
        subst he
        exact ⟨by rw [← HFE.out]; rfl, HB.out.trans hb2⟩
end Go.Proofs.YtpdpcgeeneajjaaDoor
end
section
namespace Go.Proofs.YtpdpcgeeneajjaaDoor
open Go.RowKit
def sumOp (op : Int) : Bool := op == 2 || (op == 3 || op == 4)
def touchF (s : Bool) (v : Int) (r w : List Int) : Bool := !(s && v == 8) && (r.contains v || w.contains v)
def depF (i j : Ins) : Bool := (i.op == 0 || j.op == 0) || (i.wt.any (fun v => touchF (sumOp i.op && sumOp j.op) v j.rd j.wt) || j.wt.any (fun v => touchF (sumOp i.op && sumOp j.op) v i.rd i.wt))
def delayF (op : Int) : Int := if op = 6 then 1 else if op = 5 then 2 else 0
end Go.Proofs.YtpdpcgeeneajjaaDoor
end
section
namespace Go.Proofs.YtpdpcgeeneajjaaDoor
open Go.RowKit
def depRow (l : List Ins) (j m : Nat) : List Int := ((List.range m).filter fun i => depF (l.getD i Ins.zero) (l.getD j Ins.zero)).map fun i : Nat => (i : Int)
end Go.Proofs.YtpdpcgeeneajjaaDoor
end
section
namespace Go.Proofs.YtpdpcgeeneajjaaDoor
open Go.RowKit
def hitF (l : List Ins) (v : Int) (i k : Nat) : Bool := (List.range k).any fun m => decide (i < m) && (l.getD m Ins.zero).wt.contains v
def latX (l : List Ins) (x y : Ins) (i j : Nat) : Int := if delayF x.op = 0 ∨ y.rd.contains x.a = false then 1 else if hitF l x.a i j then 1 else 1 + delayF x.op
def latP (l : List Ins) (i j : Nat) : Int := latX l (l.getD i Ins.zero) (l.getD j Ins.zero) i j
end Go.Proofs.YtpdpcgeeneajjaaDoor
end
section
namespace Go.Proofs.YtpdpcgeeneajjaaDoor
open Go.RowKit
def htS (l : List Ins) (j : Nat) (h : List Int) (i : Int) : List Int := h.set i.toNat (max (h.getD i.toNat 0) (latP l i.toNat j + h.getD j 0))
def htI (l : List Ins) (j : Nat) (h : List Int) (is : List Int) : List Int := is.foldl (htS l j) h
def htJ (l : List Ins) (j : Nat) (h : List Int) : List Int := htI l j (h.set j (max (h.getD j 0) 1)) (depRow l j j)
def hts (l : List Ins) (n : Nat) : Nat → List Int
  | 0 => List.replicate n 0
  | k + 1 => htJ l (n - 1 - k) (hts l n k)
end Go.Proofs.YtpdpcgeeneajjaaDoor
end
section
namespace Go.Proofs.YtpdpcgeeneajjaaDoor
open Go.RowKit
def rdF (R : List Int) (N : Int) (rs : List Int) : Int := rs.foldl (fun m s => if s < 8 then max m (R.getD s.toNat 0) else m) N
def wrF (R : List Int) (v : Int) (ws : List Int) : List Int := ws.foldl (fun r s => if s < 8 then r.set s.toNat v else r) R
def tmS (t : Int × List Int) (i : Ins) : Int × List Int := (rdF t.2 t.1 i.rd + 1, wrF t.2 (rdF t.2 t.1 i.rd + 1 + delayF i.op) i.wt)
def tmF (l : List Ins) : Int × List Int := l.foldl tmS (0, List.replicate 8 0)
end Go.Proofs.YtpdpcgeeneajjaaDoor
end
section
namespace Go.Proofs.YtpdpcgeeneajjaaDoor
open Go.RowKit
def builtS (P : Program) (e : TypeId) (len : Nat) (parts : List (Nat × Value)) : Option (Array Value) :=
  match P.info? e with
  | some ie => match ie.zero with
    | some z => Instr.fill (fun i => some (i * ie.size, ie.size)) ((Array.range (len * ie.size)).map (z.cells[· % z.cells.size]!)) parts
    | none => none
  | none => none
theorem run_bldS {P : Program} (w : World) (t e : TypeId) (len : Nat) (parts : Array (Nat × Value)) (cells : Array Value) (hu : P.underlying t = some (.slice e)) (n : Nat) (hn : (P.info? e).map (·.size) = some n) (hl : len * n ≤ 2 ^ 24) (h0 : len * n ≠ 0) (h : builtS P e len parts.toList = some cells) :
    (Instr.buildSlice t len parts).run P w = .ok (.slice (some ⟨w.heap.size, 0, none⟩) len len) (w.alloc (.cells cells e)) := by
  unfold builtS at h
  cases hi : P.info? e with
  | none => simp [hi] at h
  | some ie =>
    cases hz : ie.zero with
    | none => simp [hi, hz] at h
    | some z =>
      simp only [hi, hz] at h
      have hs : ie.size = n := by simpa [hi] using hn
      subst hs
      have hl' : ¬ (2 ^ 24 < len * ie.size) := by omega
      simp [Instr.buildSlice, run_underlying hu, sizeOf, typeInfo, zeroValue, hi, hz, hl', h0, h]
      simp [go_sem]
theorem wp_bldS {ops : Array Oper} {rest : List Oper} {o : Oper} {a : Act} {Q : Exit → Act → World → Prop} {w : World} (hgd : o.guard = none) (ty e : TypeId) (len : Nat) (parts : Array (Nat × Operand)) (ho : o.op = .buildSlice ty len parts) (hu : Tryd.prog.underlying ty = some (.slice e)) (n : Nat) (hn : (Tryd.prog.info? e).map (·.size) = some n) (hl : len * n ≤ 2 ^ 24) (h0 : len * n ≠ 0)
    (ps : List (Nat × Value)) (hp : parts.toList.map (fun p => (p.1, a.eval p.2)) = ps) {cells : Array Value} (hb : builtS Tryd.prog e len ps = some cells)
    (h : wpList Tryd.prog ops Q rest (a.put o.dst (.slice (some ⟨w.heap.size, 0, none⟩) len len)) (w.alloc (.cells cells e))) : wpList Tryd.prog ops Q (o :: rest) a w := by
  have e1 : (parts.map fun (i, x) => (i, a.eval x)).toList = ps := by rw [Array.toList_map]; exact hp
  refine wpList_plain hgd fun _ hK => ?_
  unfold Oper.wp execOp
  simp only [ho, Sem.run_bind, run_bldS w ty e len _ cells hu n hn hl h0 (by rw [e1]; exact hb), Result.andThen_ok]
  exact hK _ _ h
end Go.Proofs.YtpdpcgeeneajjaaDoor
end
section
namespace Go.Proofs.YtpdpcgeeneajjaaDoor
open Go.RowKit
def encI (i : Ins) : List Int := [i.op, i.a, i.b, i.imm]
theorem flatI_get {l : List Ins} {k j : Nat} {i : Ins} (h : l[k]? = some i) (hj : j < 4) : ((l.flatMap encI).map (Value.int .i64))[k * 4 + j]? = i.cells[j]? := by
  rw [List.getElem?_map, flat_get (enc := encI) (sz := 4) (fun _ => rfl) l k j i h hj, ← List.getElem?_map]; rfl
theorem InsAt.row {w : World} {A : Option Addr} {l : List Ins} (h : InsAt w A l) : ∀ j u, ((l.flatMap encI).map (Value.int .i64))[j]? = some u → ∃ ad, A = some ad ∧ w.cell? (ad.add j) = some u := fun j u hu => by
  have hj : j < l.length * 4 := by
    have := (List.getElem?_eq_some_iff.1 hu).1
    rw [List.length_map, flat_length (enc := encI) (sz := 4) (fun _ => rfl)] at this
    exact this
  have hk : j / 4 < l.length := by omega
  have ht : l[j / 4]? = some l[j / 4] := List.getElem?_eq_getElem hk
  obtain ⟨ad, e, hs, -, hr, -⟩ := h _ _ ht
  refine ⟨ad, e, ?_⟩
  have ej : j = j / 4 * 4 + j % 4 := by omega
  rw [ej, flatI_get ht (by omega)] at hu
  rw [add_noneI hs, show ad.off + j = ad.off + j / 4 * 4 + j % 4 by omega]
  exact hr (j % 4) u hu
theorem InsAt.grown {w w' : World} {A : Option Addr} {l : List Ins} {r : Option Nat} (h : InsAt w A l) (hg : w.grownBy w' r) (hn : ∀ a, A = some a → some a.block ≠ r) : InsAt w' A l := fun k i hk => by
  obtain ⟨ad, e, h1, h2, h3, h4⟩ := h k i hk
  exact ⟨ad, e, h1, Nat.lt_of_lt_of_le h2 hg.size, fun j v hj => hg.cell (h3 j v hj) (hn ad e), h4⟩
theorem nums_one {l : List Int} : ∀ u ∈ l.map (Value.int .i64), u.oneCell' = true := fun u hu => by
  obtain ⟨x, _, rfl⟩ := List.mem_map.1 hu; rfl
theorem info_ins : (Tryd.prog.info? 50).map (fun i => (i.zero, i.size, i.bytes)) = some (some (.agg #[.int .i64 0, .int .i64 0, .int .i64 0, .int .i64 0]), 4, 32) := by kernel_rfl
theorem und_ins : Tryd.prog.underlying 24 = some (.slice 50) := Tryd.underlying24
theorem built_ins1 (i : Ins) : builtS Tryd.prog 50 1 [(0, i.v)] = some (i.cells.toArray) := by kernel_rfl
def OwnIR (base : Nat) (w : World) (v : Value) (l : List Ins) : Prop := w.ownsRow base 50 4 v l.length ((l.flatMap encI).map (Value.int .i64)) ∧ ∀ i ∈ l, i.ok
theorem OwnIR.nil {base : Nat} {w : World} : OwnIR base w (.slice none 0 0) [] := ⟨World.ownsRow_nil _ _ _ _, by simp⟩
theorem OwnIR.grow {base : Nat} {w w' : World} {v : Value} {l : List Ins} (h : OwnIR base w v l) (hb : Below w.heap.size w w') : OwnIR base w' v l := ⟨own_grow h.1 hb, h.2⟩
theorem OwnIR.base {base base' : Nat} {w : World} {v : Value} {l : List Ins} (h : OwnIR base w v l) (hb : base' ≤ base) : OwnIR base' w v l := ⟨own_base h.1 hb, h.2⟩
theorem OwnIR.store {base g k : Nat} {w : World} {v u : Value} {l : List Ins} (h : OwnIR base w v l) (hg : g < base) : OwnIR base (w.setCell ⟨g, k, none⟩ u) v l := ⟨own_store h.1 hg, h.2⟩
theorem OwnIR.ge {base : Nat} {w : World} {v : Value} {l : List Ins} (h : OwnIR base w v l) : ∀ k, v.ownBlock = some k → base ≤ k := fun k hk => (h.1.lt k hk).1
theorem OwnIR.form {base : Nat} {w : World} {v : Value} {l : List Ins} (h : OwnIR base w v l) : ∃ A c, v = .slice A l.length c ∧ l.length ≤ c ∧ InsAt w A l := by
  obtain ⟨A, c, rfl, hc⟩ := own_form h.1
  refine ⟨A, c, rfl, hc, fun k i hk => ?_⟩
  have hc4 : ∀ j v, i.cells[j]? = some v → ∃ g, A = some ⟨g, 0, none⟩ ∧ g < w.heap.size ∧ w.cell? ⟨g, k * 4 + j, none⟩ = some v := fun j v hj => by
    have hj4 : j < 4 := (List.getElem?_eq_some_iff.1 hj).1
    obtain ⟨g, e0, hg, d0⟩ := own_cells h.1 (k := k * 4 + j) (v := v) (by rw [flatI_get hk hj4]; exact hj)
    exact ⟨g, e0, hg, d0⟩
  obtain ⟨g, e0, hg, d0⟩ := hc4 0 _ rfl
  refine ⟨⟨g, 0, none⟩, e0, rfl, hg, fun j v hj => ?_, h.2 i (List.mem_of_getElem? hk)⟩
  obtain ⟨g1, e1, hg1, d1⟩ := hc4 j v hj
  rw [e0] at e1
  injection e1 with e1; injection e1 with e1
  subst e1
  rw [show (⟨g, 0, none⟩ : Addr).off + k * 4 + j = k * 4 + j by show 0 + k * 4 + j = _; omega]
  exact d1
theorem OwnIR.single {w : World} {i : Ins} (hi : i.ok) : OwnIR w.heap.size (w.alloc (.cells i.cells.toArray 50)) (.slice (some ⟨w.heap.size, 0, none⟩) 1 1) [i] :=
  ⟨World.ownsRow_lit w i.cells.toArray 1 (Nat.le_refl _) (by unfold maxLen; omega) (by kernel_rfl), fun x hx => by rw [List.mem_singleton.1 hx]; exact hi⟩
theorem app_ins {ops : Array Oper} {rest : List Oper} {o : Oper} {a : Act} {Q : Exit → Act → World → Prop} (w : World) (hg : o.guard = none) (s x : Operand) (ho : o.op = .call { callee := .builtin .append, args := #[s, x], argTypes := #[24, 24] })
    (base : Nat) {v : Value} {l m : List Ins} {A : Option Addr} {n c : Nat} (hs : a.eval s = v) (hx : a.eval x = .slice A n c) (hown : OwnIR base w v l) (hI : InsAt w A m) (hm : m.length = n) (hn : l.length + n ≤ 100000000) (hbase : base ≤ w.heap.size)
    (h : ∀ v' w', OwnIR base w' v' (l ++ m) → Below base w w' → wpList Tryd.prog ops Q rest (a.put o.dst v') w') : wpList Tryd.prog ops Q (o :: rest) a w := by
  subst hm
  refine app_row w hg s x 24 50 (.agg #[.int .i64 0, .int .i64 0, .int .i64 0, .int .i64 0]) 4 32 ho und_ins info_ins rfl (by decide) (by decide) base hs hx hown.1 (ys := (m.flatMap encI).map (Value.int .i64)) ?_ hI.row nums_one hn hbase fun v' w' h1 h2 h3 => h v' w' ⟨?_, ?_⟩ (own_below (Below.refl _ _) hbase hown.ge h2)
  · rw [List.length_map, flat_length (enc := encI) (sz := 4) (fun _ => rfl)]
  · rw [List.flatMap_append, List.map_append, List.length_append]; exact h1
  · intro i hi
    rcases List.mem_append.1 hi with hi | hi
    · exact hown.2 i hi
    · exact hI.ok i hi
theorem mk_ins0 {ops : Array Oper} {rest : List Oper} {o : Oper} {a : Act} {Q : Exit → Act → World → Prop} {w : World} (hg : o.guard = none) (s c : Operand) (hop : o.op = Op.makeSlice 24 s c)
    (base n : Nat) {N : Int} (hs : a.eval s = .int .i64 0) (hc : a.eval c = .int .i64 N) (hN : N = (n : Int)) (hn : n ≤ 100000000) (hb : base ≤ w.heap.size)
    (h : ∀ w', OwnIR base w' (.slice (some ⟨w.heap.size, 0, none⟩) 0 n) [] → Below w.heap.size w w' → wpList Tryd.prog ops Q rest (a.put o.dst (.slice (some ⟨w.heap.size, 0, none⟩) 0 n)) w') :
    wpList Tryd.prog ops Q (o :: rest) a w := by
  subst hN
  obtain ⟨i0, hi, hz0, hz1, hz2⟩ := info_parts info_ins
  refine wpList_make_own w hg s c 24 hop base 50 i0 (.agg #[.int .i64 0, .int .i64 0, .int .i64 0, .int .i64 0]) 4 und_ins hi hz0 hz1 .i64 .i64 n n hs hc rfl (by rw [hz2]; omega) (by unfold maxLen; omega) hb fun w' h1 h2 => h w' ⟨h1, by simp⟩ ((Below.refl _ _).grown h2 (Nat.le_refl _) (by intro k hk; cases hk))
theorem bld_ins1 {ops : Array Oper} {rest : List Oper} {o : Oper} {a : Act} {Q : Exit → Act → World → Prop} {w : World} {i : Ins} (hgd : o.guard = none) (x : Operand) (ho : o.op = .buildSlice 24 1 #[(0, x)]) (hx : a.eval x = i.v)
    (h : wpList Tryd.prog ops Q rest (a.put o.dst (.slice (some ⟨w.heap.size, 0, none⟩) 1 1)) (w.alloc (.cells i.cells.toArray 50))) : wpList Tryd.prog ops Q (o :: rest) a w :=
  wp_bldS hgd 24 50 1 _ ho und_ins 4 size_ins (by decide) (by decide) _ rfl (by show builtS Tryd.prog 50 1 [(0, a.eval x)] = _; rw [hx]; exact built_ins1 i) h
end Go.Proofs.YtpdpcgeeneajjaaDoor
end
section
namespace Go.Proofs.YtpdpcgeeneajjaaDoor
open Go.RowKit
def mkW (k least most above : Int) : Int × Int × Int × Int :=
  (least + withinF k 1099511627776 % (most - least + 1),
   max (least + withinF k 1099511627776 % (most - least + 1) - 1 - above - withinF k 1099511627776 / (most - least + 1) % 2) 0,
   1 + withinF k 1099511627776 / (most - least + 1) / 2 % 3,
   1 + withinF k 1099511627776 / (most - least + 1) / 2 / 3 % 2)
abbrev wordT (u : Int × Int × Int × Int) : Value := wordV u.1 u.2.1 u.2.2.1 u.2.2.2
theorem wd_WordD (k : Int) (w : World) : Calls Tryd.prog 52 #[.int .i64 k, .int .i64 6, .int .i64 12, .int .i64 2] w fun e w' => e = .returned (wordT (mkW k 6 12 2)) ∧ Below w.heap.size w w' := by
  obtain ⟨g1, g2⟩ := within_in (m := 1099511627776) (by decide) k
  obtain ⟨y, hy⟩ : ∃ y, withinF k 1099511627776 = y := ⟨_, rfl⟩
  have HW : Hid (mkW k 6 12 2 = (6 + y % 7, max (6 + y % 7 - 1 - 2 - y / 7 % 2) 0, 1 + y / 7 / 2 % 3, 1 + y / 7 / 2 / 3 % 2)) := by unfold mkW; rw [hy]; exact rfl
  rw [hy] at g1 g2
  go_enter Tryd.func52, Tryd.ntmps52
  go_wp2_with (go_at_call 16; refine (wd_Within _ _ _ (by decide)).mono ?_; rintro e w' ⟨rfl, rfl⟩)
  refine bodyPost_ret (v := wordT (mkW k 6 12 2)) (by rw [HW.out]; simp [results, Tryd.results52, go_sem] <;> omega) rfl ⟨rfl, ?_⟩
  exact ((Below.refl _ _).alloc (Nat.le_refl _) _).alloc (by simp) _
theorem wd_WordC (k : Int) (w : World) : Calls Tryd.prog 52 #[.int .i64 k, .int .i64 6, .int .i64 9, .int .i64 1] w fun e w' => e = .returned (wordT (mkW k 6 9 1)) ∧ Below w.heap.size w w' := by
  obtain ⟨g1, g2⟩ := within_in (m := 1099511627776) (by decide) k
  obtain ⟨y, hy⟩ : ∃ y, withinF k 1099511627776 = y := ⟨_, rfl⟩
  have HW : Hid (mkW k 6 9 1 = (6 + y % 4, max (6 + y % 4 - 1 - 1 - y / 4 % 2) 0, 1 + y / 4 / 2 % 3, 1 + y / 4 / 2 / 3 % 2)) := by unfold mkW; rw [hy]; exact rfl
  rw [hy] at g1 g2
  go_enter Tryd.func52, Tryd.ntmps52
  go_wp2_with (go_at_call 16; refine (wd_Within _ _ _ (by decide)).mono ?_; rintro e w' ⟨rfl, rfl⟩)
  refine bodyPost_ret (v := wordT (mkW k 6 9 1)) (by rw [HW.out]; simp [results, Tryd.results52, go_sem] <;> omega) rfl ⟨rfl, ?_⟩
  exact ((Below.refl _ _).alloc (Nat.le_refl _) _).alloc (by simp) _
theorem mkWC_ok (k : Int) : okW (mkW k 6 9 1).1 (mkW k 6 9 1).2.1 (mkW k 6 9 1).2.2.1 (mkW k 6 9 1).2.2.2 = true := by
  obtain ⟨g1, g2⟩ := within_in (m := 1099511627776) (by decide) k
  rw [okW_iff]
  unfold mkW
  dsimp only
  omega
theorem wd_Data (k : Int) (w : World) : Calls Tryd.prog 28 #[.int .i64 k] w fun e w' => e = .returned (wordT (mkW k 6 12 2)) ∧ Below w.heap.size w w' := by
  go_enter Tryd.func28, Tryd.ntmps28
  go_wp2_with (go_at_call 52; refine (wd_WordD _ _).mono ?_; rintro e w1 ⟨rfl, hb1⟩; obtain ⟨hc1, hf1⟩ := bcell hb1)
  refine bodyPost_ret (v := wordT (mkW k 6 12 2)) (by simp [results, Tryd.results28, go_sem, hc1]) rfl ⟨rfl, ?_⟩
  have hb : Below w.heap.size w w1 := ((Below.refl _ _).alloc (Nat.le_refl _) _).trans (hb1.mono (by simp))
  exact (((hb.setCell (by simp) _).setCell (by simp) _).setCell (by simp) _).setCell (by simp) _
theorem wd_Coef (k : Int) (w : World) : Calls Tryd.prog 29 #[.int .i64 k] w fun e w' => e = .returned (wordT (mkW k 6 9 1)) ∧ Below w.heap.size w w' := by
  go_enter Tryd.func29, Tryd.ntmps29
  go_wp2_with (go_at_call 52; refine (wd_WordC _ _).mono ?_; rintro e w1 ⟨rfl, hb1⟩; obtain ⟨hc1, hf1⟩ := bcell hb1)
  refine bodyPost_ret (v := wordT (mkW k 6 9 1)) (by simp [results, Tryd.results29, go_sem, hc1]) rfl ⟨rfl, ?_⟩
  have hb : Below w.heap.size w w1 := ((Below.refl _ _).alloc (Nat.le_refl _) _).trans (hb1.mono (by simp))
  exact (((hb.setCell (by simp) _).setCell (by simp) _).setCell (by simp) _).setCell (by simp) _
end Go.Proofs.YtpdpcgeeneajjaaDoor
end
