/- Several texts in one: E6 E7 E8 E10 Ql E11 E12 E13 E14 E15 U4 E16 C E23. -/
import Derived.Test.YtdiflpbioohddaaDoorrT3toE5
import Derived.Laws.EntriesVeiled
import Derived.Test.YtdiflpbioohddaaDoorrPltoS
import Derived.Test.YtdiflpbioohddaaDoorrUtoU3
import Derived.Test.YtdiflpbioohddaaDoorrQtoG3
import Derived.Test.YtdiflpbioohddaaDoorrSmtoK
import Derived.Maps.AppendAt
import Derived.Deep.RegionHeld3
import Derived.Lib.MinMax
import Derived.OwnWalk
set_option linter.unusedVariables false
set_option linter.unusedSimpArgs false
section
namespace Go.Proofs.YtdiflpbioohddaaDoor
open Go.RowKit
def encE (l : List Ins) : Int := if 512 < l.length then 5 else if l.all Ins.formed then 0 else 21
def Ins.bytes (i : Ins) : List Int := [i.op % 256, i.a % 256, i.b % 256, 0, i.imm % 4294967296 % 256, i.imm % 4294967296 / 256 % 256, i.imm % 4294967296 / 65536 % 256, i.imm % 4294967296 / 16777216 % 256]
def encB (l : List Ins) : List Int := if encE l = 0 then l.flatMap Ins.bytes else []
theorem bytes_len : ∀ (l : List Ins), (l.flatMap Ins.bytes).length = 8 * l.length
  | [] => rfl
  | i :: l => by rw [List.flatMap_cons, List.length_append, bytes_len l]; show 8 + _ = _; simp; omega
theorem info_byte : (Tryd.prog.info? 5).map (fun i => (i.zero, i.size, i.bytes)) = some (some (.int .u8 0), 1, 1) := by kernel_rfl
def OwnBy (base : Nat) (w : World) (v : Value) (l : List Int) : Prop := w.ownsRow base 5 1 v l.length (l.map (Value.int .u8))
theorem OwnBy.grow {base : Nat} {w w' : World} {v : Value} {l : List Int} (h : OwnBy base w v l) (hb : Below w.heap.size w w') : OwnBy base w' v l := own_grow h hb
theorem mk_byte0 {ops : Array Oper} {rest : List Oper} {o : Oper} {a : Act} {Q : Exit → Act → World → Prop} {w : World} (hg : o.guard = none) (s c : Operand) (hop : o.op = Op.makeSlice 145 s c)
    (base n : Nat) {N : Int} (hs : a.eval s = .int .i64 0) (hc : a.eval c = .int .i64 N) (hN : N = (n : Int)) (hn : n ≤ 100000000) (hb : base ≤ w.heap.size)
    (h : ∀ w', OwnBy base w' (.slice (some ⟨w.heap.size, 0, none⟩) 0 n) [] → Below w.heap.size w w' → wpList Tryd.prog ops Q rest (a.put o.dst (.slice (some ⟨w.heap.size, 0, none⟩) 0 n)) w') :
    wpList Tryd.prog ops Q (o :: rest) a w := by
  subst hN
  obtain ⟨i0, hi, hz0, hz1, hz2⟩ := info_parts info_byte
  refine wpList_make_own w hg s c 145 hop base 5 i0 (.int .u8 0) 1 Tryd.underlying145 hi hz0 hz1 .i64 .i64 n n hs hc rfl (by rw [hz2]; omega) (by unfold maxLen; omega) hb fun w' h1 h2 => h w' h1 ((Below.refl _ _).grown h2 (Nat.le_refl _) (by intro k hk; cases hk))
theorem app_bytes {ops : Array Oper} {rest : List Oper} {o : Oper} {a : Act} {Q : Exit → Act → World → Prop} (w : World) (hg : o.guard = none) (s x : Operand) (ho : o.op = .call { callee := .builtin .append, args := #[s, x], argTypes := #[145, 145] })
    (base : Nat) {v : Value} {l m : List Int} {q n c : Nat} (hs : a.eval s = v) (hx : a.eval x = .slice (some ⟨q, 0, none⟩) n c) (hown : OwnBy base w v l) (hm : m.length = n) (hb : Box w q (m.map (Value.int .u8))) (hn : l.length + n ≤ 100000000) (hbase : base ≤ w.heap.size)
    (h : ∀ v' w', OwnBy base w' v' (l ++ m) → w.grownBy w' v.ownBlock → wpList Tryd.prog ops Q rest (a.put o.dst v') w') : wpList Tryd.prog ops Q (o :: rest) a w := by
  subst hm
  refine app_row w hg s x 145 5 (.int .u8 0) 1 1 ho Tryd.underlying145 info_byte rfl (by decide) (by decide) base hs hx hown (ys := m.map (Value.int .u8)) (by simp) (fun j u hj => ⟨_, rfl, ?_⟩) (fun u hu => by obtain ⟨x, _, rfl⟩ := List.mem_map.1 hu; rfl) hn hbase fun v' w' h1 h2 h3 => h v' w' ?_ h2
  · rw [add_cellsB]; exact (hb.2.1 j).trans hj
  · show w'.ownsRow _ _ _ _ _ _
    rw [List.map_append, List.length_append]
    exact h1
set_option maxRecDepth 100000 in
set_option maxHeartbeats 4000000 in
theorem pr_Encode (A : Option Addr) (n c : Nat) (l : List Ins) (w : World) (hf : FormsAt w) (h : InsAt w A l) (hn : l.length = n) (h9 : n ≤ 9223372036854775807) : Calls Tryd.prog 84 #[.slice A n c] w fun e w' => (∃ v, e = .returned (.tuple #[v, .int .i64 (encE l)]) ∧ OwnBy w.heap.size w' v (encB l)) ∧ Below w.heap.size w w' := by
  have HI := Lib.hid h
  have HN := Lib.hid hn
  have HF := Lib.hid hf
  clear h hn hf
  by_cases h0 : (512 : Int) < (n : Int)
  · have e1 : encE l = 5 := by unfold encE; rw [if_pos (by rw [HN.out]; omega)]
    have e2 : encB l = [] := by unfold encB; rw [e1]; rfl
    rw [e1, e2]
    clear e1 e2
    go_enter Tryd.func84, Tryd.ntmps84
    go_wp2_with fail
    go_ret2
    exact ⟨⟨_, rfl, World.ownsRow_nil _ _ _ _⟩, Below.refl _ _⟩
  · have e1 : encE l = if l.all Ins.formed then 0 else 21 := by unfold encE; rw [if_neg (by rw [HN.out]; omega)]
    obtain ⟨E, hE⟩ : ∃ E, encE l = E := ⟨_, rfl⟩
    have HE := Lib.hid e1
    have HEE := Lib.hid hE
    rw [hE]
    clear e1 hE
    have hn512 : (n : Int) ≤ 512 := by omega
    have hw8 : IntKind.i64.wrap (8 * (n : Int)) = 8 * (n : Int) := IntWalk.i64_in _ (by omega)
    go_enter Tryd.func84, Tryd.ntmps84
    go_upto_region 4 with ((with_reducible show wpList _ _ _ (Oper.mk (some 14) _ _ _ _ _ :: _) _ _); refine mk_byte0 rfl _ _ rfl w.heap.size (8 * n) rfl rfl (by omega) (by omega) (Nat.le_refl _) ?_; intro w1 ho1 hb1)
    have HO1 := Lib.hid ho1
    have HB1 := Lib.hid hb1
    generalize (Value.slice (some ⟨w.heap.size, 0, none⟩) 0 (8 * n)) = v0 at HO1 ⊢
    clear ho1 hb1 hw8
    go_wp2_with fail
    go_loopw [4, 17] (fun v i wr => ∃ (k : Nat) (bs : List Int), k ≤ n ∧ i = .int .i64 k ∧ Hid ((l.take k).all Ins.formed = true) ∧ Hid (bs = (l.take k).flatMap Ins.bytes) ∧ Hid (OwnBy w.heap.size wr v bs) ∧ Hid (Below w.heap.size w wr)) (fun _ i _ => n - (intOf i).toNat)
    case atStart => exact ⟨0, [], Nat.zero_le _, rfl, Lib.hid rfl, Lib.hid rfl, HO1, HB1⟩
    case round =>
      obtain ⟨k, bs, hk, rfl, HT, HBS, HO, HB⟩ := hrel
      by_cases hlt : k < n
      · obtain ⟨i, hi⟩ : ∃ i, l[k]? = some i := ⟨_, List.getElem?_eq_getElem (by rw [HN.out]; exact hlt)⟩
        obtain ⟨ad, rfl, hs, hb, hr, hok⟩ := (HI.out.grow HB.out) k i hi
        have HS := Lib.hid hs
        have HR := Lib.hid hr
        have q1 : (0 : Int) ≤ (k : Int) := by omega
        have q2 : (k : Int) < (n : Int) := by omega
        have HK := Lib.hid hi
        obtain ⟨x, hx⟩ : ∃ x, i.formed = x := ⟨_, rfl⟩
        have CF : Hid (∀ w1, Below wr.heap.size wr w1 → Calls Tryd.prog 110 #[i.v] w1 fun e w' => e = .returned (.bool x) ∧ Below w1.heap.size w1 w') := fun w1 hb => by
          have := pr_formed i w1 ((HF.out.grow HB.out).grow hb)
          rw [hx] at this; exact this
        have HX := Lib.hid hx
        clear hs hr hb hi hx
        go_upto_region 7 with (first
          | ((with_reducible show wpList _ _ _ (Oper.mk _ (.load _ _) _ _ _ _ :: _) _ _); refine ld_insA HS.out HR.out rfl _ rfl rfl ?_)
          | ((with_reducible show wpList _ _ _ (Oper.mk _ (.store _ _ _) _ _ _ _ :: _) _ _); refine st_ins (w := wr.alloc (.cells Ins.zero.cells.toArray 109)) (g := wr.heap.size) (i := Ins.zero) (j := i) (Box.new rfl) rfl _ _ rfl rfl rfl ?_; intro W2 b2 p2))
        have hb2 := put_facts ((Below.refl wr.heap.size wr).alloc (Nat.le_refl _) (.cells Ins.zero.cells.toArray 109)) (Nat.le_refl _) p2
        generalize wr.heap.size = g6 at b2 ⊢
        cases x with
        | false =>
          have hall : l.all Ins.formed = false := all_no HK.out HX.out
          go_wp2_with (first
            | ((with_reducible show wpList _ _ _ (Oper.mk _ (.load _ _) _ _ _ _ :: _) _ _); refine ld_ins b2 rfl _ rfl rfl ?_)
            | (go_at_call 110; (with_reducible refine (CF.out _ hb2).mono ?_); rintro e1 w3 ⟨rfl, hb3⟩))
          go_ret2
          have he : E = 21 := by rw [← HEE.out, HE.out, hall]; rfl
          subst he
          exact ⟨⟨_, rfl, by rw [show encB l = [] by unfold encB; rw [HE.out, hall]; rfl]; exact World.ownsRow_nil _ _ _ _⟩, below_then HB.out (below_then hb2 hb3)⟩
        | true =>
          go_upto_region 9 with (first
            | ((with_reducible show wpList _ _ _ (Oper.mk _ (.load _ _) _ _ _ _ :: _) _ _); refine ld_ins b2 rfl _ rfl rfl ?_)
            | (go_at_call 110; (with_reducible refine (CF.out _ hb2).mono ?_); rintro e1 w3 ⟨rfl, hb3⟩))
          obtain ⟨z0, z1, z2, z3⟩ := (Box.keep b2 hb3).c4
          have hb13 := below_then hb2 hb3
          go_upto_region 10 with fail
          obtain ⟨U, hU⟩ : ∃ U, i.imm % 4294967296 = U := ⟨_, rfl⟩
          have HMM : Hid (i.bytes = [i.op % 256, i.a % 256, i.b % 256, 0, U % 256, U / 256 % 256, U / 65536 % 256, U / 16777216 % 256]) := by show _ = _; unfold Ins.bytes; rw [hU]
          rw [hU]
          clear hU
          have HB3 := Lib.hid (below_then HB.out hb13)
          have HO3 := Lib.hid (HO.out.grow hb13)
          have HLN : Hid (bs.length + 8 ≤ 100000000) := by
            show _ ≤ _
            rw [HBS.out, bytes_len, List.length_take]; omega
          have HSZ : Hid (w.heap.size ≤ (w3.alloc (.cells ([i.op % 256, i.a % 256, i.b % 256, 0, U % 256, U / 256 % 256, U / 65536 % 256, U / 16777216 % 256].map (Value.int .u8)).toArray 5)).heap.size) := by
            have := HB3.out.size; show _ ≤ _; simp; omega
          have HAL : Hid (Below w3.heap.size w3 (w3.alloc (.cells ([i.op % 256, i.a % 256, i.b % 256, 0, U % 256, U / 256 % 256, U / 65536 % 256, U / 16777216 % 256].map (Value.int .u8)).toArray 5))) := (Below.refl _ _).alloc (Nat.le_refl _) _
          have HBX : Hid (Box (w3.alloc (.cells ([i.op % 256, i.a % 256, i.b % 256, 0, U % 256, U / 256 % 256, U / 65536 % 256, U / 16777216 % 256].map (Value.int .u8)).toArray 5)) w3.heap.size ([i.op % 256, i.a % 256, i.b % 256, 0, U % 256, U / 256 % 256, U / 65536 % 256, U / 16777216 % 256].map (Value.int .u8))) := Box.new rfl
          have HO4 := Lib.hid (HO3.out.grow HAL.out)
          have HBW : Hid (∀ b, u4.ownBlock = some b → w.heap.size ≤ b) := fun b hb => ((show World.ownsRow _ _ _ _ _ _ _ from HO.out).lt b hb).1
          go_upto_region 11 with ((with_reducible show wpList _ _ _ (Oper.mk (some 49) _ _ _ _ _ :: _) _ _); refine app_bytes _ rfl _ _ rfl w.heap.size (v := u4) (l := bs) (q := w3.heap.size) (n := 8) (c := 8) (m := [i.op % 256, i.a % 256, i.b % 256, 0, U % 256, U / 256 % 256, U / 65536 % 256, U / 16777216 % 256]) rfl rfl HO4.out rfl HBX.out HLN.out HSZ.out ?_; intro v5 w5 ho5 hg5)
          have wk : IntKind.i64.wrap ((k : Int) + 1) = ((k + 1 : Nat) : Int) := (IntWalk.i64_in _ (by omega)).trans (by omega)
          have HB5 := Lib.hid ((below_then HB3.out HAL.out).grown hg5 (below_then HB3.out HAL.out).size HBW.out)
          have HO5 : Hid (OwnBy w.heap.size w5 v5 (bs ++ i.bytes)) := by show OwnBy _ _ _ _; rw [HMM.out]; exact ho5
          clear ho5 hg5
          go_wp2_with fail
          go_roundw
          case rel => exact ⟨k + 1, bs ++ i.bytes, by omega, rfl, Lib.hid (by show _ = _; rw [take_succ_all HK.out, HT.out, HX.out]; rfl), Lib.hid (by show _ = _; rw [HBS.out, take_snoc' HK.out, List.flatMap_append]; simp), HO5, HB5⟩
          case measure => simp [intOf]; omega
      · obtain rfl : k = n := by omega
        have hlo : ¬ (k : Int) < (k : Int) := by omega
        have ht : l.all Ins.formed = true := by have := HT.out; rwa [← HN.out, List.take_length] at this
        go_wp2_with fail
        go_ret2
        have he : E = 0 := by rw [← HEE.out, HE.out, ht]; rfl
        subst he
        exact ⟨⟨_, rfl, by rw [show encB l = l.flatMap Ins.bytes by unfold encB; rw [HE.out, ht]; rfl]; have := HO.out; rw [HBS.out, ← HN.out, List.take_length] at this; exact this⟩, HB.out⟩
end Go.Proofs.YtdiflpbioohddaaDoor
end
section
namespace Go.Proofs.YtdiflpbioohddaaDoor
open Go.RowKit
def sumOp (op : Int) : Bool := op == 2 || (op == 3 || op == 4)
def touchF (s : Bool) (v : Int) (r w : List Int) : Bool := !(s && v == 8) && (r.contains v || w.contains v)
def depF (i j : Ins) : Bool := (i.op == 0 || j.op == 0) || (i.wt.any (fun v => touchF (sumOp i.op && sumOp j.op) v j.rd j.wt) || j.wt.any (fun v => touchF (sumOp i.op && sumOp j.op) v i.rd i.wt))
def delayF (op : Int) : Int := if op = 6 then 1 else if op = 5 then 2 else 0
def fineF (l : List Ins) : Bool := inB l.length 1 512 && l.all Ins.formed
end Go.Proofs.YtdiflpbioohddaaDoor
end
section
namespace Go.Proofs.YtdiflpbioohddaaDoor
open Go.RowKit
theorem rd_len (i : Ins) : i.rd.length ≤ 2 := by unfold Ins.rd; split <;> (try split) <;> simp
theorem wt_len (i : Ins) : i.wt.length ≤ 1 := by unfold Ins.wt; split <;> (try split) <;> simp
end Go.Proofs.YtdiflpbioohddaaDoor
end
section
namespace Go.Proofs.YtdiflpbioohddaaDoor
open Go.RowKit
def depE (l : List Ins) : Int := if fineF l then 0 else 21
theorem fine_encE (l : List Ins) : fineF l = true ↔ encE l = 0 ∧ l.length ≠ 0 := by
  unfold fineF encE inB
  rw [Bool.and_eq_true, Bool.and_eq_true, decide_eq_true_eq, decide_eq_true_eq]
  by_cases h : 512 < l.length
  · rw [if_pos h]
    constructor
    · rintro ⟨⟨-, h2⟩, -⟩; omega
    · rintro ⟨h1, -⟩; exact absurd h1 (by decide)
  · rw [if_neg h]
    by_cases ha : l.all Ins.formed = true
    · rw [if_pos ha]
      constructor
      · rintro ⟨⟨h1, -⟩, -⟩; exact ⟨rfl, by omega⟩
      · rintro ⟨-, h2⟩; exact ⟨⟨by omega, by omega⟩, ha⟩
    · rw [if_neg ha]
      constructor
      · rintro ⟨-, h1⟩; exact absurd h1 ha
      · rintro ⟨h1, -⟩; exact absurd h1 (by decide)
end Go.Proofs.YtdiflpbioohddaaDoor
end
section
namespace Go.Proofs.YtdiflpbioohddaaDoor
theorem qld_mid {P : Program} {ops : Array Oper} {rest : List Oper} {o : Oper} {a : Act} {C : World → Prop} {Q : Act → Prop} (hw : Region.wanted o (yielded ops a.tmps) = true) (ty : TypeId) (x : Operand) (ho : o.op = .load ty x) (b k : Nat) (hx : a.eval x = .pointer (some ⟨b, k, none⟩)) (cs : List Value) (d : TypeDesc) (hc : ∀ w, C w → w.rangeAt b k cs)
    (hu : P.underlying ty = some d) (hd : d.isRow = true) (hi : (P.info? ty).map (·.size) = some cs.length) (h : wpQuiet P ops C Q rest (a.put o.dst (.agg cs.toArray))) : wpQuiet P ops C Q (o :: rest) a :=
  BigFrame.wpQuiet_want hw fun K hK => ⟨_, fun w hw' => by
    unfold Oper.quietAt execOp
    simp only [ho, hx, Instr.loadAt, Instr.sureAddr, Sem.run_bind, Sem.run_pure, Result.andThen_ok, run_loadVar_mid w b k ty cs d (hc w hw') hu hd hi]
    exact ⟨rfl, rfl⟩, hK _ h⟩
end Go.Proofs.YtdiflpbioohddaaDoor
end
section
namespace Go.Proofs.YtdiflpbioohddaaDoor
open Go.RowKit
def depRow (l : List Ins) (j m : Nat) : List Int := ((List.range m).filter fun i => depF (l.getD i Ins.zero) (l.getD j Ins.zero)).map fun i : Nat => (i : Int)
theorem qld_insA {ops : Array Oper} {rest : List Oper} {o : Oper} {a : Act} {Q : Act → Prop} {W : World} {i : Ins} {ad : Addr} {n : Nat} (hs : ad.spot = none) (hb : ad.block < W.heap.size) (hr : W.rangeAt ad.block (ad.off + n) i.cells) (hw : Region.wanted o (yielded ops a.tmps) = true) (x : Operand) (ho : o.op = .load 109 x) (hx : a.eval x = .pointer (some (ad.add n))) (h : wpQuiet Tryd.prog ops (fun w' => ∃ n : Ext W, w' = n.to) Q rest (a.put o.dst i.v)) : wpQuiet Tryd.prog ops (fun w' => ∃ n : Ext W, w' = n.to) Q (o :: rest) a := by
  obtain ⟨d, h1, h2⟩ := row_ins
  rw [add_noneI hs] at hx
  exact qld_mid hw _ x ho ad.block (ad.off + n) hx i.cells d (fun w hw' => by obtain ⟨n, rfl⟩ := hw'; exact range_keepI hr hb n.below) h1 h2 size_ins h
end Go.Proofs.YtdiflpbioohddaaDoor
end
section
namespace Go.Proofs.YtdiflpbioohddaaDoor
open Go.RowKit
def hitF (l : List Ins) (v : Int) (i k : Nat) : Bool := (List.range k).any fun m => decide (i < m) && (l.getD m Ins.zero).wt.contains v
def latX (l : List Ins) (x y : Ins) (i j : Nat) : Int := if delayF x.op = 0 ∨ y.rd.contains x.a = false then 1 else if hitF l x.a i j then 1 else 1 + delayF x.op
def latP (l : List Ins) (i j : Nat) : Int := latX l (l.getD i Ins.zero) (l.getD j Ins.zero) i j
theorem delayF_in (op : Int) : 0 ≤ delayF op ∧ delayF op ≤ 2 := by unfold delayF; split <;> (try split) <;> decide
end Go.Proofs.YtdiflpbioohddaaDoor
end
section
namespace Go.Proofs.YtdiflpbioohddaaDoor
open Go.RowKit
def htS (l : List Ins) (j : Nat) (h : List Int) (i : Int) : List Int := h.set i.toNat (max (h.getD i.toNat 0) (latP l i.toNat j + h.getD j 0))
def htI (l : List Ins) (j : Nat) (h : List Int) (is : List Int) : List Int := is.foldl (htS l j) h
def htJ (l : List Ins) (j : Nat) (h : List Int) : List Int := htI l j (h.set j (max (h.getD j 0) 1)) (depRow l j j)
def hts (l : List Ins) (n : Nat) : Nat → List Int
  | 0 => List.replicate n 0
  | k + 1 => htJ l (n - 1 - k) (hts l n k)
def InB (h : List Int) (n : Nat) (B : Int) : Prop := h.length = n ∧ ∀ v ∈ h, 0 ≤ v ∧ v ≤ B
theorem InB.getD {h : List Int} {n : Nat} {B : Int} (hb : InB h n B) (hB : 0 ≤ B) (i : Nat) : 0 ≤ h.getD i 0 ∧ h.getD i 0 ≤ B := by
  rw [List.getD_eq_getElem?_getD]
  cases e : h[i]? with
  | none => exact ⟨Int.le_refl _, hB⟩
  | some v => exact hb.2 v (List.mem_of_getElem? e)
theorem InB.at {h : List Int} {n : Nat} {B : Int} (hb : InB h n B) {i : Nat} (hi : i < n) : h[i]? = some (h.getD i 0) := by
  rw [List.getD_eq_getElem?_getD, List.getElem?_eq_getElem (by rw [hb.1]; exact hi)]; rfl
theorem InB.set {h : List Int} {n : Nat} {B v : Int} (hb : InB h n B) (i : Nat) (hv : 0 ≤ v ∧ v ≤ B) : InB (h.set i v) n B := by
  refine ⟨by rw [List.length_set]; exact hb.1, fun x hx => ?_⟩
  rcases List.mem_or_eq_of_mem_set hx with h1 | h1
  · exact hb.2 x h1
  · rw [h1]; exact hv
theorem InB.le {h : List Int} {n : Nat} {B C : Int} (hb : InB h n B) (hc : B ≤ C) : InB h n C := ⟨hb.1, fun v hv => by have := hb.2 v hv; omega⟩
end Go.Proofs.YtdiflpbioohddaaDoor
end
section
namespace Go.Proofs.YtdiflpbioohddaaDoor
open Go.RowKit
theorem fineF_len {l : List Ins} (h : fineF l = true) : 1 ≤ l.length ∧ l.length ≤ 512 := by
  unfold fineF inB at h
  rw [Bool.and_eq_true, Bool.and_eq_true, decide_eq_true_eq, decide_eq_true_eq] at h
  omega
end Go.Proofs.YtdiflpbioohddaaDoor
end
section
namespace Go.Proofs.YtdiflpbioohddaaDoor
open Go.RowKit
def rdF (R : List Int) (N : Int) (rs : List Int) : Int := rs.foldl (fun m s => if s < 8 then max m (R.getD s.toNat 0) else m) N
def wrF (R : List Int) (v : Int) (ws : List Int) : List Int := ws.foldl (fun r s => if s < 8 then r.set s.toNat v else r) R
def tmS (t : Int × List Int) (i : Ins) : Int × List Int := (rdF t.2 t.1 i.rd + 1, wrF t.2 (rdF t.2 t.1 i.rd + 1 + delayF i.op) i.wt)
def tmF (l : List Ins) : Int × List Int := l.foldl tmS (0, List.replicate 8 0)
theorem tmF_snoc (l : List Ins) (i : Ins) : tmF (l ++ [i]) = tmS (tmF l) i := by unfold tmF; rw [List.foldl_append]; rfl
theorem rdF_snoc (R : List Int) (N : Int) (rs : List Int) (s : Int) : rdF R N (rs ++ [s]) = if s < 8 then max (rdF R N rs) (R.getD s.toNat 0) else rdF R N rs := by unfold rdF; rw [List.foldl_append]; rfl
theorem wrF_snoc (R : List Int) (v : Int) (ws : List Int) (s : Int) : wrF R v (ws ++ [s]) = if s < 8 then (wrF R v ws).set s.toNat v else wrF R v ws := by unfold wrF; rw [List.foldl_append]; rfl
theorem rdF_in {R : List Int} {B : Int} (hR : InB R 8 B) (hB : 0 ≤ B) : ∀ (rs : List Int) (N : Int), 0 ≤ N ∧ N ≤ B → N ≤ rdF R N rs ∧ rdF R N rs ≤ B
  | [], N, h => ⟨Int.le_refl _, h.2⟩
  | s :: rs, N, h => by
    have h1 := hR.getD hB s.toNat
    show N ≤ rdF R (if s < 8 then max N (R.getD s.toNat 0) else N) rs ∧ rdF R (if s < 8 then max N (R.getD s.toNat 0) else N) rs ≤ B
    split
    · have := rdF_in hR hB rs (max N (R.getD s.toNat 0)) (by omega)
      omega
    · exact rdF_in hR hB rs N h
theorem wrF_in {v B : Int} (hv : 0 ≤ v ∧ v ≤ B) : ∀ (ws : List Int) (R : List Int), InB R 8 B → InB (wrF R v ws) 8 B
  | [], R, h => h
  | s :: ws, R, h => by
    show InB (wrF (if s < 8 then R.set s.toNat v else R) v ws) 8 B
    split
    · exact wrF_in hv ws _ (h.set _ hv)
    · exact wrF_in hv ws R h
theorem tmF_in (l : List Ins) : ∀ k, (0 ≤ (tmF (l.take k)).1 ∧ (tmF (l.take k)).1 ≤ 4 * k) ∧ InB (tmF (l.take k)).2 8 (4 * k)
  | 0 => ⟨⟨Int.le_refl _, by show (0 : Int) ≤ _; omega⟩, by show (List.replicate 8 (0 : Int)).length = 8; simp, fun v hv => by rw [List.eq_of_mem_replicate hv]; omega⟩
  | k + 1 => by
    obtain ⟨h1, h2⟩ := tmF_in l k
    cases e : l[k]? with
    | none =>
      have : l.take (k + 1) = l.take k := by
        have := List.getElem?_eq_none_iff.1 e
        rw [List.take_of_length_le (by omega), List.take_of_length_le (by omega)]
      rw [this]
      exact ⟨by omega, h2.le (by omega)⟩
    | some i =>
      rw [take_snoc' e, tmF_snoc]
      have h3 := rdF_in h2 (by omega) i.rd _ h1
      have h4 := delayF_in i.op
      exact ⟨by show 0 ≤ rdF _ _ _ + 1 ∧ rdF _ _ _ + 1 ≤ _; omega, wrF_in (by omega) _ _ (h2.le (by omega))⟩
theorem rd_nat (i : Ins) : ∀ s ∈ i.rd, 0 ≤ s := fun s hs => by
  unfold Ins.rd at hs
  by_cases hf : i.formed = true
  · rw [if_pos hf] at hs
    obtain ⟨h1, h2, h3, h4⟩ := formed_parts hf
    split at hs <;> simp only [List.mem_cons, List.not_mem_nil, or_false] at hs <;> omega
  · rw [if_neg hf] at hs; simp at hs
theorem wt_nat (i : Ins) : ∀ s ∈ i.wt, 0 ≤ s := fun s hs => by
  unfold Ins.wt at hs
  by_cases hf : i.formed = true
  · rw [if_pos hf] at hs
    obtain ⟨h1, h2, h3, h4⟩ := formed_parts hf
    split at hs <;> simp only [List.mem_cons, List.not_mem_nil, or_false] at hs <;> omega
  · rw [if_neg hf] at hs; simp at hs
def cycF (l : List Ins) : Int := if fineF l then (tmF l).1 else 0
def stlF (l : List Ins) : Int := if fineF l then (tmF l).1 - l.length else 0
def RetTime (w : World) (l : List Ins) (e : Ending) (w' : World) : Prop := e = .returned (.tuple #[.int .i64 (cycF l), .int .i64 (stlF l), .int .i64 (depE l)]) ∧ Below w.heap.size w w'
def BoxI (w : World) (g : Nat) (R : List Int) : Prop := Box w g (R.map (Value.int .i64))
theorem BoxI.cell {w : World} {g : Nat} {R : List Int} {n : Nat} {B : Int} (h : BoxI w g R) (hb : InB R n B) {s : Nat} (hs : s < n) : w.cell? ⟨g, s, none⟩ = some (.int .i64 (R.getD s 0)) ∧ w.frozen? ⟨g, s, none⟩ = false :=
  ⟨(h.2.1 s).trans (by rw [List.getElem?_map, hb.at hs]; rfl), h.2.2 s⟩
theorem BoxI.set {w : World} {g : Nat} {R : List Int} {n : Nat} {B : Int} (h : BoxI w g R) (hb : InB R n B) {s : Nat} (hs : s < n) (v : Int) : BoxI (w.setCell ⟨g, s, none⟩ (.int .i64 v)) g (R.set s v) := by
  have := Box.set (u := Value.int .i64 v) h (k := s) (by rw [List.length_map, hb.1]; exact hs)
  rw [← List.map_set] at this
  exact this
end Go.Proofs.YtdiflpbioohddaaDoor
end
section
namespace Go.Proofs.YtdiflpbioohddaaDoor
open Go.RowKit
def builtS (P : Program) (e : TypeId) (len : Nat) (parts : List (Nat × Value)) : Option (Array Value) :=
  match P.info? e with
  | some ie => match ie.zero with
    | some z => Instr.fill (fun i => some (i * ie.size, ie.size)) ((Array.range (len * ie.size)).map (z.cells[· % z.cells.size]!)) parts
    | none => none
  | none => none
theorem run_bldS {P : Program} (w : World) (t e : TypeId) (len : Nat) (parts : Array (Nat × Value)) (cells : Array Value) (hu : P.underlying t = some (.slice e)) (n : Nat) (hn : (P.info? e).map (·.size) = some n) (hl : len * n ≤ 2 ^ 24) (h0 : len * n ≠ 0) (h : builtS P e len parts.toList = some cells) :
    (Instr.buildSlice t len parts).run P w = .ok (.slice (some ⟨w.heap.size, 0, none⟩) len len) (w.alloc (.cells cells e)) := by
  unfold builtS at h
  cases hi : P.info? e with
  | none => simp [hi] at h
  | some ie =>
    cases hz : ie.zero with
    | none => simp [hi, hz] at h
    | some z =>
      simp only [hi, hz] at h
      have hs : ie.size = n := by simpa [hi] using hn
      subst hs
      have hl' : ¬ (2 ^ 24 < len * ie.size) := by omega
      simp [Instr.buildSlice, run_underlying hu, sizeOf, typeInfo, zeroValue, hi, hz, hl', h0, h]
      simp [go_sem]
theorem wp_bldS {ops : Array Oper} {rest : List Oper} {o : Oper} {a : Act} {Q : Exit → Act → World → Prop} {w : World} (hgd : o.guard = none) (ty e : TypeId) (len : Nat) (parts : Array (Nat × Operand)) (ho : o.op = .buildSlice ty len parts) (hu : Tryd.prog.underlying ty = some (.slice e)) (n : Nat) (hn : (Tryd.prog.info? e).map (·.size) = some n) (hl : len * n ≤ 2 ^ 24) (h0 : len * n ≠ 0)
    (ps : List (Nat × Value)) (hp : parts.toList.map (fun p => (p.1, a.eval p.2)) = ps) {cells : Array Value} (hb : builtS Tryd.prog e len ps = some cells)
    (h : wpList Tryd.prog ops Q rest (a.put o.dst (.slice (some ⟨w.heap.size, 0, none⟩) len len)) (w.alloc (.cells cells e))) : wpList Tryd.prog ops Q (o :: rest) a w := by
  have e1 : (parts.map fun (i, x) => (i, a.eval x)).toList = ps := by rw [Array.toList_map]; exact hp
  refine wpList_plain hgd fun _ hK => ?_
  unfold Oper.wp execOp
  simp only [ho, Sem.run_bind, run_bldS w ty e len _ cells hu n hn hl h0 (by rw [e1]; exact hb), Result.andThen_ok]
  exact hK _ _ h
end Go.Proofs.YtdiflpbioohddaaDoor
end
section
namespace Go.Proofs.YtdiflpbioohddaaDoor
open Go.RowKit
def encI (i : Ins) : List Int := [i.op, i.a, i.b, i.imm]
theorem flatI_get {l : List Ins} {k j : Nat} {i : Ins} (h : l[k]? = some i) (hj : j < 4) : ((l.flatMap encI).map (Value.int .i64))[k * 4 + j]? = i.cells[j]? := by
  rw [List.getElem?_map, flat_get (enc := encI) (sz := 4) (fun _ => rfl) l k j i h hj, ← List.getElem?_map]; rfl
theorem InsAt.row {w : World} {A : Option Addr} {l : List Ins} (h : InsAt w A l) : ∀ j u, ((l.flatMap encI).map (Value.int .i64))[j]? = some u → ∃ ad, A = some ad ∧ w.cell? (ad.add j) = some u := fun j u hu => by
  have hj : j < l.length * 4 := by
    have := (List.getElem?_eq_some_iff.1 hu).1
    rw [List.length_map, flat_length (enc := encI) (sz := 4) (fun _ => rfl)] at this
    exact this
  have hk : j / 4 < l.length := by omega
  have ht : l[j / 4]? = some l[j / 4] := List.getElem?_eq_getElem hk
  obtain ⟨ad, e, hs, -, hr, -⟩ := h _ _ ht
  refine ⟨ad, e, ?_⟩
  have ej : j = j / 4 * 4 + j % 4 := by omega
  rw [ej, flatI_get ht (by omega)] at hu
  rw [add_noneI hs, show ad.off + j = ad.off + j / 4 * 4 + j % 4 by omega]
  exact hr (j % 4) u hu
theorem InsAt.grown {w w' : World} {A : Option Addr} {l : List Ins} {r : Option Nat} (h : InsAt w A l) (hg : w.grownBy w' r) (hn : ∀ a, A = some a → some a.block ≠ r) : InsAt w' A l := fun k i hk => by
  obtain ⟨ad, e, h1, h2, h3, h4⟩ := h k i hk
  exact ⟨ad, e, h1, Nat.lt_of_lt_of_le h2 hg.size, fun j v hj => hg.cell (h3 j v hj) (hn ad e), h4⟩
theorem nums_one {l : List Int} : ∀ u ∈ l.map (Value.int .i64), u.oneCell' = true := fun u hu => by
  obtain ⟨x, _, rfl⟩ := List.mem_map.1 hu; rfl
theorem info_ins : (Tryd.prog.info? 109).map (fun i => (i.zero, i.size, i.bytes)) = some (some (.agg #[.int .i64 0, .int .i64 0, .int .i64 0, .int .i64 0]), 4, 32) := by kernel_rfl
theorem und_ins : Tryd.prog.underlying 39 = some (.slice 109) := Tryd.underlying39
theorem built_ins1 (i : Ins) : builtS Tryd.prog 109 1 [(0, i.v)] = some (i.cells.toArray) := by kernel_rfl
def OwnIR (base : Nat) (w : World) (v : Value) (l : List Ins) : Prop := w.ownsRow base 109 4 v l.length ((l.flatMap encI).map (Value.int .i64)) ∧ ∀ i ∈ l, i.ok
theorem OwnIR.nil {base : Nat} {w : World} : OwnIR base w (.slice none 0 0) [] := ⟨World.ownsRow_nil _ _ _ _, by simp⟩
theorem OwnIR.grow {base : Nat} {w w' : World} {v : Value} {l : List Ins} (h : OwnIR base w v l) (hb : Below w.heap.size w w') : OwnIR base w' v l := ⟨own_grow h.1 hb, h.2⟩
theorem OwnIR.base {base base' : Nat} {w : World} {v : Value} {l : List Ins} (h : OwnIR base w v l) (hb : base' ≤ base) : OwnIR base' w v l := ⟨own_base h.1 hb, h.2⟩
theorem OwnIR.store {base g k : Nat} {w : World} {v u : Value} {l : List Ins} (h : OwnIR base w v l) (hg : g < base) : OwnIR base (w.setCell ⟨g, k, none⟩ u) v l := ⟨own_store h.1 hg, h.2⟩
theorem OwnIR.ge {base : Nat} {w : World} {v : Value} {l : List Ins} (h : OwnIR base w v l) : ∀ k, v.ownBlock = some k → base ≤ k := fun k hk => (h.1.lt k hk).1
theorem OwnIR.form {base : Nat} {w : World} {v : Value} {l : List Ins} (h : OwnIR base w v l) : ∃ A c, v = .slice A l.length c ∧ l.length ≤ c ∧ InsAt w A l := by
  obtain ⟨A, c, rfl, hc⟩ := own_form h.1
  refine ⟨A, c, rfl, hc, fun k i hk => ?_⟩
  have hc4 : ∀ j v, i.cells[j]? = some v → ∃ g, A = some ⟨g, 0, none⟩ ∧ g < w.heap.size ∧ w.cell? ⟨g, k * 4 + j, none⟩ = some v := fun j v hj => by
    have hj4 : j < 4 := (List.getElem?_eq_some_iff.1 hj).1
    obtain ⟨g, e0, hg, d0⟩ := own_cells h.1 (k := k * 4 + j) (v := v) (by rw [flatI_get hk hj4]; exact hj)
    exact ⟨g, e0, hg, d0⟩
  obtain ⟨g, e0, hg, d0⟩ := hc4 0 _ rfl
  refine ⟨⟨g, 0, none⟩, e0, rfl, hg, fun j v hj => ?_, h.2 i (List.mem_of_getElem? hk)⟩
  obtain ⟨g1, e1, hg1, d1⟩ := hc4 j v hj
  rw [e0] at e1
  injection e1 with e1; injection e1 with e1
  subst e1
  rw [show (⟨g, 0, none⟩ : Addr).off + k * 4 + j = k * 4 + j by show 0 + k * 4 + j = _; omega]
  exact d1
theorem OwnIR.single {w : World} {i : Ins} (hi : i.ok) : OwnIR w.heap.size (w.alloc (.cells i.cells.toArray 109)) (.slice (some ⟨w.heap.size, 0, none⟩) 1 1) [i] :=
  ⟨World.ownsRow_lit w i.cells.toArray 1 (Nat.le_refl _) (by unfold maxLen; omega) (by kernel_rfl), fun x hx => by rw [List.mem_singleton.1 hx]; exact hi⟩
theorem bld_ins1 {ops : Array Oper} {rest : List Oper} {o : Oper} {a : Act} {Q : Exit → Act → World → Prop} {w : World} {i : Ins} (hgd : o.guard = none) (x : Operand) (ho : o.op = .buildSlice 39 1 #[(0, x)]) (hx : a.eval x = i.v)
    (h : wpList Tryd.prog ops Q rest (a.put o.dst (.slice (some ⟨w.heap.size, 0, none⟩) 1 1)) (w.alloc (.cells i.cells.toArray 109))) : wpList Tryd.prog ops Q (o :: rest) a w :=
  wp_bldS hgd 39 109 1 _ ho und_ins 4 size_ins (by decide) (by decide) _ rfl (by show builtS Tryd.prog 109 1 [(0, a.eval x)] = _; rw [hx]; exact built_ins1 i) h
end Go.Proofs.YtdiflpbioohddaaDoor
end
section
namespace Go.Proofs.YtdiflpbioohddaaDoor
open Go.RowKit
def mkW (k least most above : Int) : Int × Int × Int × Int :=
  (least + withinF k 1099511627776 % (most - least + 1),
   max (least + withinF k 1099511627776 % (most - least + 1) - 1 - above - withinF k 1099511627776 / (most - least + 1) % 2) 0,
   1 + withinF k 1099511627776 / (most - least + 1) / 2 % 3,
   1 + withinF k 1099511627776 / (most - least + 1) / 2 / 3 % 2)
abbrev wordT (u : Int × Int × Int × Int) : Value := wordV u.1 u.2.1 u.2.2.1 u.2.2.2
theorem wd_WordD (k : Int) (w : World) : Calls Tryd.prog 61 #[.int .i64 k, .int .i64 6, .int .i64 12, .int .i64 2] w fun e w' => e = .returned (wordT (mkW k 6 12 2)) ∧ Below w.heap.size w w' := by
  obtain ⟨g1, g2⟩ := within_in (m := 1099511627776) (by decide) k
  obtain ⟨y, hy⟩ : ∃ y, withinF k 1099511627776 = y := ⟨_, rfl⟩
  have HW : Hid (mkW k 6 12 2 = (6 + y % 7, max (6 + y % 7 - 1 - 2 - y / 7 % 2) 0, 1 + y / 7 / 2 % 3, 1 + y / 7 / 2 / 3 % 2)) := by unfold mkW; rw [hy]; exact rfl
  rw [hy] at g1 g2
  go_enter Tryd.func61, Tryd.ntmps61
  go_wp2_with (go_at_call 23; refine (wd_Within _ _ _ (by decide)).mono ?_; rintro e w' ⟨rfl, rfl⟩)
  refine bodyPost_ret (v := wordT (mkW k 6 12 2)) (by rw [HW.out]; simp [results, Tryd.results61, go_sem] <;> omega) rfl ⟨rfl, ?_⟩
  exact ((Below.refl _ _).alloc (Nat.le_refl _) _).alloc (by simp) _
theorem mkWD_ok (k : Int) : okW (mkW k 6 12 2).1 (mkW k 6 12 2).2.1 (mkW k 6 12 2).2.2.1 (mkW k 6 12 2).2.2.2 = true := by
  obtain ⟨g1, g2⟩ := within_in (m := 1099511627776) (by decide) k
  rw [okW_iff]
  unfold mkW
  dsimp only
  omega
theorem wd_WordC (k : Int) (w : World) : Calls Tryd.prog 61 #[.int .i64 k, .int .i64 6, .int .i64 9, .int .i64 1] w fun e w' => e = .returned (wordT (mkW k 6 9 1)) ∧ Below w.heap.size w w' := by
  obtain ⟨g1, g2⟩ := within_in (m := 1099511627776) (by decide) k
  obtain ⟨y, hy⟩ : ∃ y, withinF k 1099511627776 = y := ⟨_, rfl⟩
  have HW : Hid (mkW k 6 9 1 = (6 + y % 4, max (6 + y % 4 - 1 - 1 - y / 4 % 2) 0, 1 + y / 4 / 2 % 3, 1 + y / 4 / 2 / 3 % 2)) := by unfold mkW; rw [hy]; exact rfl
  rw [hy] at g1 g2
  go_enter Tryd.func61, Tryd.ntmps61
  go_wp2_with (go_at_call 23; refine (wd_Within _ _ _ (by decide)).mono ?_; rintro e w' ⟨rfl, rfl⟩)
  refine bodyPost_ret (v := wordT (mkW k 6 9 1)) (by rw [HW.out]; simp [results, Tryd.results61, go_sem] <;> omega) rfl ⟨rfl, ?_⟩
  exact ((Below.refl _ _).alloc (Nat.le_refl _) _).alloc (by simp) _
theorem mkWC_ok (k : Int) : okW (mkW k 6 9 1).1 (mkW k 6 9 1).2.1 (mkW k 6 9 1).2.2.1 (mkW k 6 9 1).2.2.2 = true := by
  obtain ⟨g1, g2⟩ := within_in (m := 1099511627776) (by decide) k
  rw [okW_iff]
  unfold mkW
  dsimp only
  omega
theorem wd_Data (k : Int) (w : World) : Calls Tryd.prog 27 #[.int .i64 k] w fun e w' => e = .returned (wordT (mkW k 6 12 2)) ∧ Below w.heap.size w w' := by
  go_enter Tryd.func27, Tryd.ntmps27
  go_wp2_with (go_at_call 61; refine (wd_WordD _ _).mono ?_; rintro e w1 ⟨rfl, hb1⟩; obtain ⟨hc1, hf1⟩ := bcell hb1)
  refine bodyPost_ret (v := wordT (mkW k 6 12 2)) (by simp [results, Tryd.results27, go_sem, hc1]) rfl ⟨rfl, ?_⟩
  have hb : Below w.heap.size w w1 := ((Below.refl _ _).alloc (Nat.le_refl _) _).trans (hb1.mono (by simp))
  exact (((hb.setCell (by simp) _).setCell (by simp) _).setCell (by simp) _).setCell (by simp) _
theorem wd_Coef (k : Int) (w : World) : Calls Tryd.prog 29 #[.int .i64 k] w fun e w' => e = .returned (wordT (mkW k 6 9 1)) ∧ Below w.heap.size w w' := by
  go_enter Tryd.func29, Tryd.ntmps29
  go_wp2_with (go_at_call 61; refine (wd_WordC _ _).mono ?_; rintro e w1 ⟨rfl, hb1⟩; obtain ⟨hc1, hf1⟩ := bcell hb1)
  refine bodyPost_ret (v := wordT (mkW k 6 9 1)) (by simp [results, Tryd.results29, go_sem, hc1]) rfl ⟨rfl, ?_⟩
  have hb : Below w.heap.size w w1 := ((Below.refl _ _).alloc (Nat.le_refl _) _).trans (hb1.mono (by simp))
  exact (((hb.setCell (by simp) _).setCell (by simp) _).setCell (by simp) _).setCell (by simp) _
end Go.Proofs.YtdiflpbioohddaaDoor
end
section
namespace Go.Proofs.YtdiflpbioohddaaDoor
open Go.RowKit
def encR (x : Int × Int) : List Int := [x.1, x.2]
def rgCells (x : Int × Int) : List Value := [.int .i64 x.1, .int .i64 x.2]
def RingsAt (w : World) (A : Option Addr) (l : List (Int × Int)) : Prop := ∀ (k : Nat) x, l[k]? = some x → ∃ ad, A = some ad ∧ ad.spot = none ∧ ad.block < w.heap.size ∧ w.rangeAt ad.block (ad.off + k * 2) (rgCells x) ∧ I64 x.1 ∧ I64 x.2
theorem RingsAt.nil {w : World} {A : Option Addr} : RingsAt w A [] := fun k x h => by simp at h
theorem RingsAt.grow {w w' : World} {A : Option Addr} {l : List (Int × Int)} (h : RingsAt w A l) (hb : Below w.heap.size w w') : RingsAt w' A l := fun k i hk => by
  obtain ⟨ad, e, h1, h2, h3, h4⟩ := h k i hk
  exact ⟨ad, e, h1, Nat.lt_of_lt_of_le h2 hb.size, range_keepI h3 h2 hb, h4⟩
theorem ring_cells {w : World} {x : Int × Int} {ad : Addr} {n : Nat} (hs : ad.spot = none) (hr : w.rangeAt ad.block (ad.off + n) (rgCells x)) :
    w.cell? (ad.add n) = some (.int .i64 x.1) ∧ w.cell? ⟨(ad.add n).block, (ad.add n).off + 1, none⟩ = some (.int .i64 x.2) := by
  rw [add_noneI hs]
  exact ⟨hr 0 _ rfl, hr 1 _ rfl⟩
theorem flatR_get {l : List (Int × Int)} {k j : Nat} {x : Int × Int} (h : l[k]? = some x) (hj : j < 2) : ((l.flatMap encR).map (Value.int .i64))[k * 2 + j]? = (rgCells x)[j]? := by
  rw [List.getElem?_map, flat_get (enc := encR) (sz := 2) (fun _ => rfl) l k j x h hj, ← List.getElem?_map]; rfl
theorem RingsAt.row {w : World} {A : Option Addr} {l : List (Int × Int)} (h : RingsAt w A l) : ∀ j u, ((l.flatMap encR).map (Value.int .i64))[j]? = some u → ∃ ad, A = some ad ∧ w.cell? (ad.add j) = some u := fun j u hu => by
  have hj : j < l.length * 2 := by
    have := (List.getElem?_eq_some_iff.1 hu).1
    rw [List.length_map, flat_length (enc := encR) (sz := 2) (fun _ => rfl)] at this
    exact this
  have hk : j / 2 < l.length := by omega
  have ht : l[j / 2]? = some l[j / 2] := List.getElem?_eq_getElem hk
  obtain ⟨ad, e, hs, -, hr, -⟩ := h _ _ ht
  refine ⟨ad, e, ?_⟩
  have ej : j = j / 2 * 2 + j % 2 := by omega
  rw [ej, flatR_get ht (by omega)] at hu
  rw [add_noneI hs, show ad.off + j = ad.off + j / 2 * 2 + j % 2 by omega]
  exact hr (j % 2) u hu
theorem RingsAt.grown {w w' : World} {A : Option Addr} {l : List (Int × Int)} {r : Option Nat} (h : RingsAt w A l) (hg : w.grownBy w' r) (hn : ∀ a, A = some a → some a.block ≠ r) : RingsAt w' A l := fun k i hk => by
  obtain ⟨ad, e, h1, h2, h3, h4⟩ := h k i hk
  exact ⟨ad, e, h1, Nat.lt_of_lt_of_le h2 hg.size, fun j v hj => hg.cell (h3 j v hj) (hn ad e), h4⟩
theorem RingsAt.ok {w : World} {A : Option Addr} {l : List (Int × Int)} (h : RingsAt w A l) : ∀ x ∈ l, I64 x.1 ∧ I64 x.2 := fun x hx => by
  obtain ⟨k, hk, rfl⟩ := List.getElem_of_mem hx
  obtain ⟨ad, -, -, -, -, h4⟩ := h k _ (List.getElem?_eq_getElem hk)
  exact h4
theorem size_ring : (Tryd.prog.info? 96).map (·.size) = some 2 := by kernel_rfl
structure PrgD where
  (d0 d1 d2 d3 c0 c1 c2 c3 : Int)
  (rg : List (Int × Int))
  (code : List Ins)
structure PrgA where
  (d : PrgD)
  (RA CA : Option Addr)
  (rc cc : Nat)
def PrgA.lst (u : PrgA) : List Value := [.int .i64 u.d.d0, .int .i64 u.d.d1, .int .i64 u.d.d2, .int .i64 u.d.d3, .int .i64 u.d.c0, .int .i64 u.d.c1, .int .i64 u.d.c2, .int .i64 u.d.c3, .slice u.RA u.d.rg.length u.rc, .slice u.CA u.d.code.length u.cc]
def PrgA.v (u : PrgA) : Value := .agg u.lst.toArray
def PrgAt (w : World) (u : PrgA) : Prop := RingsAt w u.RA u.d.rg ∧ InsAt w u.CA u.d.code
theorem PrgAt.grow {w w' : World} {u : PrgA} (h : PrgAt w u) (hb : Below w.heap.size w w') : PrgAt w' u := ⟨h.1.grow hb, h.2.grow hb⟩
end Go.Proofs.YtdiflpbioohddaaDoor
end
