/- Several texts in one: E5 E6 E7. -/
import Derived.Test.YtgdccmmcjicgkaaDoorcE2
import Derived.Test.YtgdccmmcjicgkaaDoorcE1toI0
import Derived.Test.YtgdccmmcjicgkaaDoorcJ
import Derived.Test.YtgdccmmcjicgkaaDoorcG3toU3
import Derived.Laws.EntriesVeiled
set_option linter.unusedVariables false
set_option linter.unusedSimpArgs false
section
namespace Go.Proofs.YtgdccmmcjicgkaaDoor
open Go.RowKit
def InsAt (w : World) (A : Option Addr) (l : List Ins) : Prop := ∀ (k : Nat) i, l[k]? = some i → ∃ ad, A = some ad ∧ ad.spot = none ∧ ad.block < w.heap.size ∧ w.rangeAt ad.block (ad.off + k * 4) i.cells ∧ i.ok
theorem range_keepI {w w' : World} {b o : Nat} {cs : List Value} {B : Nat} (h : w.rangeAt b o cs) (hb : b < B) (hB : Below B w w') : w'.rangeAt b o cs := fun j v hj => (hB.cell (p := ⟨b, o + j, none⟩) hb).trans (h j v hj)
theorem InsAt.grow {w w' : World} {A : Option Addr} {l : List Ins} (h : InsAt w A l) (hb : Below w.heap.size w w') : InsAt w' A l := fun k i hk => by
  obtain ⟨ad, e, h1, h2, h3, h4⟩ := h k i hk
  exact ⟨ad, e, h1, Nat.lt_of_lt_of_le h2 hb.size, range_keepI h3 h2 hb, h4⟩
theorem InsAt.ok {w : World} {A : Option Addr} {l : List Ins} (h : InsAt w A l) : ∀ i ∈ l, i.ok := fun i hi => by
  obtain ⟨k, hk⟩ := List.getElem?_of_mem hi
  obtain ⟨ad, -, -, -, -, h4⟩ := h k i hk
  exact h4
theorem add_noneI {ad : Addr} {n : Nat} (h : ad.spot = none) : ad.add n = ⟨ad.block, ad.off + n, none⟩ := by
  obtain ⟨b, o, s⟩ := ad
  simp only at h
  subst h
  unfold Addr.add
  split
  · rename_i e; subst e; rfl
  · rfl
theorem ins_cells {w : World} {i : Ins} {ad : Addr} {n : Nat} (hs : ad.spot = none) (hr : w.rangeAt ad.block (ad.off + n) i.cells) :
    w.cell? (ad.add n) = some (.int .i64 i.op) ∧ w.cell? ⟨(ad.add n).block, (ad.add n).off + 1, none⟩ = some (.int .i64 i.a) ∧ w.cell? ⟨(ad.add n).block, (ad.add n).off + 2, none⟩ = some (.int .i64 i.b) ∧ w.cell? ⟨(ad.add n).block, (ad.add n).off + 3, none⟩ = some (.int .i64 i.imm) := by
  rw [add_noneI hs]
  exact ⟨hr 0 _ rfl, hr 1 _ rfl, hr 2 _ rfl, hr 3 _ rfl⟩
theorem row_ins : ∃ d, Tryd.prog.underlying 24 = some d ∧ d.isRow = true := ⟨_, Tryd.underlying24, rfl⟩
theorem size_ins : (Tryd.prog.info? 24).map (·.size) = some 4 := by kernel_rfl
theorem ld_insA {ops : Array Oper} {rest : List Oper} {o : Oper} {a : Act} {Q : Exit → Act → World → Prop} {w : World} {i : Ins} {ad : Addr} {n : Nat} (hs : ad.spot = none) (hr : w.rangeAt ad.block (ad.off + n) i.cells) (hgd : o.guard = none) (x : Operand) (ho : o.op = .load 24 x) (hx : a.eval x = .pointer (some (ad.add n))) (h : wpList Tryd.prog ops Q rest (a.put o.dst i.v) w) : wpList Tryd.prog ops Q (o :: rest) a w := by
  obtain ⟨d, h1, h2⟩ := row_ins
  rw [add_noneI hs] at hx
  exact wpList_load_mid hgd _ x ho ad.block (ad.off + n) hx i.cells d hr h1 h2 size_ins h
theorem ld_ins {ops : Array Oper} {rest : List Oper} {o : Oper} {a : Act} {Q : Exit → Act → World → Prop} {w : World} {i : Ins} {g : Nat} (hb : Box w g i.cells) (hgd : o.guard = none) (x : Operand) (ho : o.op = .load 24 x) (hx : a.eval x = .pointer (some ⟨g, 0, none⟩)) (h : wpList Tryd.prog ops Q rest (a.put o.dst i.v) w) : wpList Tryd.prog ops Q (o :: rest) a w := by
  obtain ⟨d, h1, h2⟩ := row_ins
  exact wp_ld hgd _ x ho g 0 hx hb i.cells (fun j v hj => by rw [Nat.zero_add]; exact hj) d h1 h2 size_ins h
theorem st_ins {ops : Array Oper} {rest : List Oper} {o : Oper} {a : Act} {Q : Exit → Act → World → Prop} {w : World} {i j : Ins} {g : Nat} (hb : Box w g i.cells) (hgd : o.guard = none) (x y : Operand) (ho : o.op = .store 24 x y) (hx : a.eval x = .pointer (some ⟨g, 0, none⟩)) (hy : a.eval y = j.v)
    (h : ∀ W1, Box W1 g j.cells → w.grownBy W1 (some g) → wpList Tryd.prog ops Q rest (a.put o.dst undef) W1) : wpList Tryd.prog ops Q (o :: rest) a w :=
  wp_st hgd _ x y ho g 0 j.cells hx hy size_ins rfl hb (by show 0 + 4 ≤ 4; omega) rfl h
def Ins.zero : Ins := ⟨0, 0, 0, 0⟩
end Go.Proofs.YtgdccmmcjicgkaaDoor
end
section
namespace Go.Proofs.YtgdccmmcjicgkaaDoor
open Go.RowKit
def encE (l : List Ins) : Int := if 512 < l.length then 5 else if l.all Ins.formed then 0 else 21
def Ins.bytes (i : Ins) : List Int := [i.op % 256, i.a % 256, i.b % 256, 0, i.imm % 4294967296 % 256, i.imm % 4294967296 / 256 % 256, i.imm % 4294967296 / 65536 % 256, i.imm % 4294967296 / 16777216 % 256]
def encB (l : List Ins) : List Int := if encE l = 0 then l.flatMap Ins.bytes else []
theorem bytes_len : ∀ (l : List Ins), (l.flatMap Ins.bytes).length = 8 * l.length
  | [] => rfl
  | i :: l => by rw [List.flatMap_cons, List.length_append, bytes_len l]; show 8 + _ = _; simp; omega
theorem info_byte : (Tryd.prog.info? 5).map (fun i => (i.zero, i.size, i.bytes)) = some (some (.int .u8 0), 1, 1) := by kernel_rfl
def OwnBy (base : Nat) (w : World) (v : Value) (l : List Int) : Prop := w.ownsRow base 5 1 v l.length (l.map (Value.int .u8))
theorem OwnBy.grow {base : Nat} {w w' : World} {v : Value} {l : List Int} (h : OwnBy base w v l) (hb : Below w.heap.size w w') : OwnBy base w' v l := own_grow h hb
theorem mk_byte0 {ops : Array Oper} {rest : List Oper} {o : Oper} {a : Act} {Q : Exit → Act → World → Prop} {w : World} (hg : o.guard = none) (s c : Operand) (hop : o.op = Op.makeSlice 26 s c)
    (base n : Nat) {N : Int} (hs : a.eval s = .int .i64 0) (hc : a.eval c = .int .i64 N) (hN : N = (n : Int)) (hn : n ≤ 100000000) (hb : base ≤ w.heap.size)
    (h : ∀ w', OwnBy base w' (.slice (some ⟨w.heap.size, 0, none⟩) 0 n) [] → Below w.heap.size w w' → wpList Tryd.prog ops Q rest (a.put o.dst (.slice (some ⟨w.heap.size, 0, none⟩) 0 n)) w') :
    wpList Tryd.prog ops Q (o :: rest) a w := by
  subst hN
  obtain ⟨i0, hi, hz0, hz1, hz2⟩ := info_parts info_byte
  refine wpList_make_own w hg s c 26 hop base 5 i0 (.int .u8 0) 1 Tryd.underlying26 hi hz0 hz1 .i64 .i64 n n hs hc rfl (by rw [hz2]; omega) (by unfold maxLen; omega) hb fun w' h1 h2 => h w' h1 ((Below.refl _ _).grown h2 (Nat.le_refl _) (by intro k hk; cases hk))
theorem app_bytes {ops : Array Oper} {rest : List Oper} {o : Oper} {a : Act} {Q : Exit → Act → World → Prop} (w : World) (hg : o.guard = none) (s x : Operand) (ho : o.op = .call { callee := .builtin .append, args := #[s, x], argTypes := #[26, 26] })
    (base : Nat) {v : Value} {l m : List Int} {q n c : Nat} (hs : a.eval s = v) (hx : a.eval x = .slice (some ⟨q, 0, none⟩) n c) (hown : OwnBy base w v l) (hm : m.length = n) (hb : Box w q (m.map (Value.int .u8))) (hn : l.length + n ≤ 100000000) (hbase : base ≤ w.heap.size)
    (h : ∀ v' w', OwnBy base w' v' (l ++ m) → w.grownBy w' v.ownBlock → wpList Tryd.prog ops Q rest (a.put o.dst v') w') : wpList Tryd.prog ops Q (o :: rest) a w := by
  subst hm
  refine app_row w hg s x 26 5 (.int .u8 0) 1 1 ho Tryd.underlying26 info_byte rfl (by decide) (by decide) base hs hx hown (ys := m.map (Value.int .u8)) (by simp) (fun j u hj => ⟨_, rfl, ?_⟩) (fun u hu => by obtain ⟨x, _, rfl⟩ := List.mem_map.1 hu; rfl) hn hbase fun v' w' h1 h2 h3 => h v' w' ?_ h2
  · rw [add_cellsB]; exact (hb.2.1 j).trans hj
  · show w'.ownsRow _ _ _ _ _ _
    rw [List.map_append, List.length_append]
    exact h1
set_option maxRecDepth 100000 in
set_option maxHeartbeats 4000000 in
theorem pr_Encode (A : Option Addr) (n c : Nat) (l : List Ins) (w : World) (hf : FormsAt w) (h : InsAt w A l) (hn : l.length = n) (h9 : n ≤ 9223372036854775807) : Calls Tryd.prog 13 #[.slice A n c] w fun e w' => (∃ v, e = .returned (.tuple #[v, .int .i64 (encE l)]) ∧ OwnBy w.heap.size w' v (encB l)) ∧ Below w.heap.size w w' := by
  have HI := Lib.hid h
  have HN := Lib.hid hn
  have HF := Lib.hid hf
  clear h hn hf
  by_cases h0 : (512 : Int) < (n : Int)
  · have e1 : encE l = 5 := by unfold encE; rw [if_pos (by rw [HN.out]; omega)]
    have e2 : encB l = [] := by unfold encB; rw [e1]; rfl
    rw [e1, e2]
    clear e1 e2
    go_enter Tryd.func13, Tryd.ntmps13
    go_wp2_with fail
    go_ret2
    exact ⟨⟨_, rfl, World.ownsRow_nil _ _ _ _⟩, Below.refl _ _⟩
  · have e1 : encE l = if l.all Ins.formed then 0 else 21 := by unfold encE; rw [if_neg (by rw [HN.out]; omega)]
    obtain ⟨E, hE⟩ : ∃ E, encE l = E := ⟨_, rfl⟩
    have HE := Lib.hid e1
    have HEE := Lib.hid hE
    rw [hE]
    clear e1 hE
    have hn512 : (n : Int) ≤ 512 := by omega
    have hw8 : IntKind.i64.wrap (8 * (n : Int)) = 8 * (n : Int) := IntWalk.i64_in _ (by omega)
    go_enter Tryd.func13, Tryd.ntmps13
    go_upto_region 4 with ((with_reducible show wpList _ _ _ (Oper.mk (some 14) _ _ _ _ _ :: _) _ _); refine mk_byte0 rfl _ _ rfl w.heap.size (8 * n) rfl rfl (by omega) (by omega) (Nat.le_refl _) ?_; intro w1 ho1 hb1)
    have HO1 := Lib.hid ho1
    have HB1 := Lib.hid hb1
    generalize (Value.slice (some ⟨w.heap.size, 0, none⟩) 0 (8 * n)) = v0 at HO1 ⊢
    clear ho1 hb1 hw8
    go_wp2_with fail
    go_loopw [4, 17] (fun v i wr => ∃ (k : Nat) (bs : List Int), k ≤ n ∧ i = .int .i64 k ∧ Hid ((l.take k).all Ins.formed = true) ∧ Hid (bs = (l.take k).flatMap Ins.bytes) ∧ Hid (OwnBy w.heap.size wr v bs) ∧ Hid (Below w.heap.size w wr)) (fun _ i _ => n - (intOf i).toNat)
    case atStart => exact ⟨0, [], Nat.zero_le _, rfl, Lib.hid rfl, Lib.hid rfl, HO1, HB1⟩
    case round =>
      obtain ⟨k, bs, hk, rfl, HT, HBS, HO, HB⟩ := hrel
      by_cases hlt : k < n
      · obtain ⟨i, hi⟩ : ∃ i, l[k]? = some i := ⟨_, List.getElem?_eq_getElem (by rw [HN.out]; exact hlt)⟩
        obtain ⟨ad, rfl, hs, hb, hr, hok⟩ := (HI.out.grow HB.out) k i hi
        have HS := Lib.hid hs
        have HR := Lib.hid hr
        have q1 : (0 : Int) ≤ (k : Int) := by omega
        have q2 : (k : Int) < (n : Int) := by omega
        have HK := Lib.hid hi
        obtain ⟨x, hx⟩ : ∃ x, i.formed = x := ⟨_, rfl⟩
        have CF : Hid (∀ w1, Below wr.heap.size wr w1 → Calls Tryd.prog 47 #[i.v] w1 fun e w' => e = .returned (.bool x) ∧ Below w1.heap.size w1 w') := fun w1 hb => by
          have := pr_formed i w1 ((HF.out.grow HB.out).grow hb)
          rw [hx] at this; exact this
        have HX := Lib.hid hx
        clear hs hr hb hi hx
        go_upto_region 7 with (first
          | ((with_reducible show wpList _ _ _ (Oper.mk _ (.load _ _) _ _ _ _ :: _) _ _); refine ld_insA HS.out HR.out rfl _ rfl rfl ?_)
          | ((with_reducible show wpList _ _ _ (Oper.mk _ (.store _ _ _) _ _ _ _ :: _) _ _); refine st_ins (w := wr.alloc (.cells Ins.zero.cells.toArray 24)) (g := wr.heap.size) (i := Ins.zero) (j := i) (Box.new rfl) rfl _ _ rfl rfl rfl ?_; intro W2 b2 p2))
        have hb2 := put_facts ((Below.refl wr.heap.size wr).alloc (Nat.le_refl _) (.cells Ins.zero.cells.toArray 24)) (Nat.le_refl _) p2
        generalize wr.heap.size = g6 at b2 ⊢
        cases x with
        | false =>
          have hall : l.all Ins.formed = false := all_no HK.out HX.out
          go_wp2_with (first
            | ((with_reducible show wpList _ _ _ (Oper.mk _ (.load _ _) _ _ _ _ :: _) _ _); refine ld_ins b2 rfl _ rfl rfl ?_)
            | (go_at_call 47; (with_reducible refine (CF.out _ hb2).mono ?_); rintro e1 w3 ⟨rfl, hb3⟩))
          go_ret2
          have he : E = 21 := by rw [← HEE.out, HE.out, hall]; rfl
          subst he
          exact ⟨⟨_, rfl, by rw [show encB l = [] by unfold encB; rw [HE.out, hall]; rfl]; exact World.ownsRow_nil _ _ _ _⟩, below_then HB.out (below_then hb2 hb3)⟩
        | true =>
          go_upto_region 9 with (first
            | ((with_reducible show wpList _ _ _ (Oper.mk _ (.load _ _) _ _ _ _ :: _) _ _); refine ld_ins b2 rfl _ rfl rfl ?_)
            | (go_at_call 47; (with_reducible refine (CF.out _ hb2).mono ?_); rintro e1 w3 ⟨rfl, hb3⟩))
          obtain ⟨z0, z1, z2, z3⟩ := (Box.keep b2 hb3).c4
          have hb13 := below_then hb2 hb3
          go_upto_region 10 with fail
          obtain ⟨U, hU⟩ : ∃ U, i.imm % 4294967296 = U := ⟨_, rfl⟩
          have HMM : Hid (i.bytes = [i.op % 256, i.a % 256, i.b % 256, 0, U % 256, U / 256 % 256, U / 65536 % 256, U / 16777216 % 256]) := by show _ = _; unfold Ins.bytes; rw [hU]
          rw [hU]
          clear hU
          have HB3 := Lib.hid (below_then HB.out hb13)
          have HO3 := Lib.hid (HO.out.grow hb13)
          have HLN : Hid (bs.length + 8 ≤ 100000000) := by
            show _ ≤ _
            rw [HBS.out, bytes_len, List.length_take]; omega
          have HSZ : Hid (w.heap.size ≤ (w3.alloc (.cells ([i.op % 256, i.a % 256, i.b % 256, 0, U % 256, U / 256 % 256, U / 65536 % 256, U / 16777216 % 256].map (Value.int .u8)).toArray 5)).heap.size) := by
            have := HB3.out.size; show _ ≤ _; simp; omega
          have HAL : Hid (Below w3.heap.size w3 (w3.alloc (.cells ([i.op % 256, i.a % 256, i.b % 256, 0, U % 256, U / 256 % 256, U / 65536 % 256, U / 16777216 % 256].map (Value.int .u8)).toArray 5))) := (Below.refl _ _).alloc (Nat.le_refl _) _
          have HBX : Hid (Box (w3.alloc (.cells ([i.op % 256, i.a % 256, i.b % 256, 0, U % 256, U / 256 % 256, U / 65536 % 256, U / 16777216 % 256].map (Value.int .u8)).toArray 5)) w3.heap.size ([i.op % 256, i.a % 256, i.b % 256, 0, U % 256, U / 256 % 256, U / 65536 % 256, U / 16777216 % 256].map (Value.int .u8))) := Box.new rfl
          have HO4 := Lib.hid (HO3.out.grow HAL.out)
          have HBW : Hid (∀ b, u4.ownBlock = some b → w.heap.size ≤ b) := fun b hb => ((show World.ownsRow _ _ _ _ _ _ _ from HO.out).lt b hb).1
          go_upto_region 11 with ((with_reducible show wpList _ _ _ (Oper.mk (some 49) _ _ _ _ _ :: _) _ _); refine app_bytes _ rfl _ _ rfl w.heap.size (v := u4) (l := bs) (q := w3.heap.size) (n := 8) (c := 8) (m := [i.op % 256, i.a % 256, i.b % 256, 0, U % 256, U / 256 % 256, U / 65536 % 256, U / 16777216 % 256]) rfl rfl HO4.out rfl HBX.out HLN.out HSZ.out ?_; intro v5 w5 ho5 hg5)
          have wk : IntKind.i64.wrap ((k : Int) + 1) = ((k + 1 : Nat) : Int) := (IntWalk.i64_in _ (by omega)).trans (by omega)
          have HB5 := Lib.hid ((below_then HB3.out HAL.out).grown hg5 (below_then HB3.out HAL.out).size HBW.out)
          have HO5 : Hid (OwnBy w.heap.size w5 v5 (bs ++ i.bytes)) := by show OwnBy _ _ _ _; rw [HMM.out]; exact ho5
          clear ho5 hg5
          go_wp2_with fail
          go_roundw
          case rel => exact ⟨k + 1, bs ++ i.bytes, by omega, rfl, Lib.hid (by show _ = _; rw [take_succ_all HK.out, HT.out, HX.out]; rfl), Lib.hid (by show _ = _; rw [HBS.out, take_snoc' HK.out, List.flatMap_append]; simp), HO5, HB5⟩
          case measure => simp [intOf]; omega
      · obtain rfl : k = n := by omega
        have hlo : ¬ (k : Int) < (k : Int) := by omega
        have ht : l.all Ins.formed = true := by have := HT.out; rwa [← HN.out, List.take_length] at this
        go_wp2_with fail
        go_ret2
        have he : E = 0 := by rw [← HEE.out, HE.out, ht]; rfl
        subst he
        exact ⟨⟨_, rfl, by rw [show encB l = l.flatMap Ins.bytes by unfold encB; rw [HE.out, ht]; rfl]; have := HO.out; rw [HBS.out, ← HN.out, List.take_length] at this; exact this⟩, HB.out⟩
end Go.Proofs.YtgdccmmcjicgkaaDoor
end
section
namespace Go.Proofs.YtgdccmmcjicgkaaDoor
open Go.RowKit
def sumOp (op : Int) : Bool := op == 2 || (op == 3 || op == 4)
def touchF (s : Bool) (v : Int) (r w : List Int) : Bool := !(s && v == 8) && (r.contains v || w.contains v)
def depF (i j : Ins) : Bool := (i.op == 0 || j.op == 0) || (i.wt.any (fun v => touchF (sumOp i.op && sumOp j.op) v j.rd j.wt) || j.wt.any (fun v => touchF (sumOp i.op && sumOp j.op) v i.rd i.wt))
theorem idx_contains (l : List Int) (v : Int) : decide (0 ≤ idxV l v) = l.contains v := by
  by_cases h : l.contains v = true
  · rw [h]
    have hv : v ∈ l := by simpa using h
    unfold idxV
    cases e : l.findIdx? (fun x => x == v) with
    | none => exact absurd (List.findIdx?_eq_none_iff.1 e v hv) (by simp)
    | some b => simp
  · have h : l.contains v = false := by simpa using h
    rw [h, idx_none (fun j hj hc => by
      have := List.mem_of_getElem? hc
      rw [show l.contains v = true by simpa using this] at h; cases h)]
    rfl
theorem sl_Contains (A : Option Addr) (l : List Int) (c n : Nat) (v : Int) (w : World) (hn : l.length = n) (hl : n ≤ 9223372036854775807) (h : Ints w A l) :
    Calls Tryd.prog 122 #[.slice A n c, .int .i64 v] w fun e w' => e = .returned (.bool (l.contains v)) ∧ w = w' := by
  have CI := Lib.hid (sl_Index A l c n v w hn hl h)
  rw [← idx_contains]
  clear h
  go_enter Tryd.func122, Tryd.ntmps122
  go_wp2_with (go_at_call 124; (with_reducible refine CI.out.mono ?_); rintro e1 w1 ⟨rfl, rfl⟩)
  go_ret
  exact ⟨rfl, rfl⟩
theorem sc_product (op : Int) (w : World) : Calls Tryd.prog 120 #[.int .i64 op] w fun e w' => e = .returned (.bool (sumOp op)) ∧ w = w' := by
  by_cases h2 : op = 2
  · subst h2
    go_enter Tryd.func120, Tryd.ntmps120
    go_wp2_with fail
    go_ret
    exact ⟨rfl, rfl⟩
  · have e2 : (op == 2) = false := by simpa using h2
    by_cases h3 : op = 3
    · subst h3
      go_enter Tryd.func120, Tryd.ntmps120
      go_wp2_with fail
      go_ret
      exact ⟨rfl, rfl⟩
    · have e3 : (op == 3) = false := by simpa using h3
      unfold sumOp
      rw [e2, e3, Bool.false_or, Bool.false_or]
      go_enter Tryd.func120, Tryd.ntmps120
      go_wp2_with fail
      go_ret
      exact ⟨rfl, rfl⟩
def delayF (op : Int) : Int := if op = 6 then 1 else if op = 5 then 2 else 0
theorem sc_delay (op : Int) (w : World) : Calls Tryd.prog 83 #[.int .i64 op] w fun e w' => e = .returned (.int .i64 (delayF op)) ∧ w = w' := by
  by_cases h6 : op = 6
  · subst h6
    go_enter Tryd.func83, Tryd.ntmps83
    go_wp2_with fail
    go_ret
    exact ⟨rfl, rfl⟩
  · have e6 : (op == 6) = false := by simpa using h6
    by_cases h5 : op = 5
    · subst h5
      go_enter Tryd.func83, Tryd.ntmps83
      go_wp2_with fail
      go_ret
      exact ⟨rfl, rfl⟩
    · have e5 : (op == 5) = false := by simpa using h5
      have e : delayF op = 0 := by unfold delayF; rw [if_neg h6, if_neg h5]
      rw [e]
      go_enter Tryd.func83, Tryd.ntmps83
      go_wp2_with fail
      go_ret
      exact ⟨rfl, rfl⟩
def fineF (l : List Ins) : Bool := inB l.length 1 512 && l.all Ins.formed
end Go.Proofs.YtgdccmmcjicgkaaDoor
end
