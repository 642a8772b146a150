/- Several texts in one: S31 Da S29 S30 H1. -/
import Derived.Test.YtdiflpbioohddaaDoortS22toS28
import Derived.Test.YtdiflpbioohddaaDoortE19toOn
import Derived.Test.YtdiflpbioohddaaDoortCtoCa
import Derived.Test.YtdiflpbioohddaaDoortU5toS3
import Derived.Test.YtdiflpbioohddaaDoortG9toVc
import Derived.Test.YtdiflpbioohddaaDoortUtoU3
import Derived.Test.YtdiflpbioohddaaDoortE1toI0
import Derived.Test.YtdiflpbioohddaaDoortI1toE12
import Derived.Test.YtdiflpbioohddaaDoortAtoV1
import Derived.Test.YtdiflpbioohddaaDoortU2toCr
import Derived.Test.YtdiflpbioohddaaDoortCxtoCz
import Derived.Test.YtdiflpbioohddaaDoortY3toS26
import Derived.Test.YtdiflpbioohddaaDoortS25
import Derived.Test.YtdiflpbioohddaaDoortCctoT8
import Derived.Test.YtdiflpbioohddaaDoortJ
set_option linter.unusedVariables false
set_option linter.unusedSimpArgs false
section
namespace Go.Proofs.YtdiflpbioohddaaDoor
open Go.RowKit
theorem rdF_ge (R : List Int) : ∀ (rs : List Int) (N : Int), N ≤ rdF R N rs
 | [], N => Int.le_refl _
 | s :: rs, N => by
  show N ≤ rdF R (if s < 8 then max N (R.getD s.toNat 0) else N) rs
  have := rdF_ge R rs (if s < 8 then max N (R.getD s.toNat 0) else N)
  split at this <;> rename_i h <;> simp only [h, if_true, if_false] at * <;> omega
theorem tmF_ge (l : List Ins) : ∀ t : Int × List Int, t.1 + l.length ≤ (l.foldl tmS t).1 := by
 induction l with
 | nil => intro t; show t.1 + 0 ≤ t.1; omega
 | cons i l ih =>
  intro t
  have h := ih (tmS t i)
  have h2 := rdF_ge t.2 i.rd t.1
  show t.1 + ((l.length + 1 : Nat) : Int) ≤ (l.foldl tmS (tmS t i)).1
  have e : (tmS t i).1 = rdF t.2 t.1 i.rd + 1 := rfl
  omega
theorem stlF_pos {l : List Ins} (h : fineF l = true) : 0 ≤ stlF l ∧ cycF l = l.length + stlF l := by
 have := tmF_ge l (0, List.replicate 8 0)
 unfold stlF cycF
 rw [if_pos h, if_pos h]
 unfold tmF
 simp only at this
 omega
end Go.Proofs.YtdiflpbioohddaaDoor
end
section
namespace Go.Proofs.YtdiflpbioohddaaDoor
theorem emb_mem {s : List Int} {n : Nat} (hs : s.length = n) (hn : n ≤ 128) : (embM s).mem.length = 128 ∧ MemS s (embM s) := by
 have h1 : (embM s).mem.length = 128 := by
  show (s ++ (List.replicate 128 (0 : Int)).drop s.length).length = 128
  rw [List.length_append, List.length_drop, List.length_replicate]; omega
 exact ⟨h1, rfl, h1, fun k hk => getD_app hk⟩
theorem emb_ok {n : NetD} {s : List Int} (hv : validB n.prg = true) (hs : n.state s = true) (h64 : s.length ≤ 64) : macB n.prg (embM s) = true := by
 obtain ⟨hl, hf⟩ := state_iff.1 hs
 have h0 := mac0_ok hv
 have hz : ∀ v ∈ (mac0 n.prg).mem, fitsW n.d0 n.d1 n.d2 n.d3 v = true := fun v hv => List.all_eq_true.1 h0.mw v hv
 refine macB_mk hv ⟨rfl, (emb_mem rfl (by omega)).1, rfl, h0.rw, ?_, h0.hw⟩ ⟨Int.le_refl _, by show (0 : Int) ≤ _; omega⟩ ⟨Int.le_refl _, by show (0 : Int) ≤ _; omega⟩
 refine List.all_eq_true.2 fun v hvm => ?_
 rcases List.mem_append.1 hvm with h | h
 ·exact hf v h
 ·exact hz v (List.mem_of_mem_drop h)
theorem emb_run_ok {n : NetD} {s xs : List Int} (hv : validB n.prg = true) (hm : macB n.prg (embM s) = true) (hx : wordD n.prg xs = true) (h25 : xs.length ≤ 100) : macB n.prg (runM n.prg (embM s) xs) = true := by
 obtain ⟨-, hmo, -⟩ := macB_parts hm
 have hcl := (valid_parts hv).2.2.1
 have hb := runM_time n.prg xs (embM s)
 obtain ⟨a, b⟩ := time_in (l := n.prg.code) hcl.2
 have hst : 0 ≤ stlF n.prg.code := (stlF_pos (valid_fine hv)).1
 have h1 := mul_in (a := (xs.length : Int)) (b := cycF n.prg.code) (A := 100) (B := 2048) (by omega) (by omega) a.1 a.2
 have h2 := mul_in (a := (xs.length : Int)) (b := stlF n.prg.code) (A := 100) (B := 2048) (by omega) (by omega) hst (by omega)
 have e0 : (embM s).cyc = 0 ∧ (embM s).stl = 0 := ⟨rfl, rfl⟩
 refine macB_mk hv (runM_ok hv _ _ hx hmo) ?_ ?_
 ·rw [hb.1, e0.1]; omega
 ·rw [hb.2, e0.2]; omega
structure CmpF (n : NetD) (s xs : List Int) : Prop where
 mac : macB n.prg (embM s) = true
 macR : macB n.prg (runM n.prg (embM s) xs) = true
 word : wordD n.prg xs = true
 outs : runO n.prg (embM s) xs = (runD n s).outS xs xs.length
 over : runV n.prg (embM s) xs = n.cntS s xs xs.length
 ex0 : extL n (embM s) = s ∧ extE n.prg (embM s) = 0
 ex1 : extL n (runM n.prg (embM s) xs) = (runD n s).stS xs xs.length ∧ extE n.prg (runM n.prg (embM s) xs) = 0
 emb : embE n s = 0
theorem mem_take {s : List Int} {m : Mac} (h : MemS s m) (hs : s.length ≤ 128) : m.mem.take s.length = s := by
 apply List.ext_getElem?
 intro i
 by_cases hi : i < s.length
 ·have him : i < m.mem.length := by rw [h.ml]; omega
  have e := h.mem i hi
  rw [List.getD_eq_getElem?_getD, List.getD_eq_getElem?_getD, List.getElem?_eq_getElem him, List.getElem?_eq_getElem hi] at e
  rw [List.getElem?_take, if_pos hi, List.getElem?_eq_getElem him, List.getElem?_eq_getElem hi]
  exact congrArg some e
 ·rw [List.getElem?_eq_none (by rw [List.length_take, h.ml]; omega), List.getElem?_eq_none (by omega)]
theorem cmp_facts {n : NetD} {s xs : List Int} (hok : n.ok = true) (hv : validB n.prg = true) (hs : n.state s = true) (hx : n.fit xs = true) (h25 : xs.length ≤ 100) : CmpF n s xs := by
 obtain ⟨-, -, ⟨p2, p3⟩, p4, p5, -⟩ := netB_parts hok
 obtain ⟨hl, hf⟩ := state_iff.1 hs
 have hsl : s.length = n.nx.length := by omega
 have h64 : n.nx.length ≤ 64 := by omega
 have hw : wordD n.prg xs = true := hx
 have hm := emb_ok hv hs (by omega)
 have hmr := emb_run_ok hv hm hw h25
 obtain ⟨r1, r2, r3, r4, -⟩ := comp_run (compD_R hok) rfl xs s (embM s) (emb_mem rfl (by omega)).2 hsl hf (List.all_eq_true.1 hx)
 have et : xs.take xs.length = xs := List.take_length
 refine ⟨hm, hmr, hw, ?_, ?_, ⟨?_, ?_⟩, ⟨?_, ?_⟩, ?_⟩
 ·rw [outS_nw (u := runD n s) rfl rfl xs.length (Nat.le_refl _), et]
  exact r1
 ·have hc := cnt_is (n := n) (u := runD n s) rfl (xs := xs) (C := n.cntS s xs) rfl (fun k y hy => cntS_succ hy) xs.length (Nat.le_refl _)
  rw [hc]
  unfold NetD.cnt
  rw [et]
  exact r2
 ·unfold extL
  rw [hm, if_pos rfl, ← hsl]
  exact mem_take (emb_mem rfl (by omega)).2 (by omega)
 ·unfold extE
  rw [hm]; rfl
 ·unfold extL
  rw [hmr, if_pos rfl, stS_nw (u := runD n s) rfl xs.length (Nat.le_refl _), et, ← r4]
  exact mem_take r3 (by rw [r4]; omega)
 ·unfold extE
  rw [hmr]; rfl
 ·unfold embE
  rw [if_pos hl, if_pos (show n.fit s = true from List.all_eq_true.2 hf)]
end Go.Proofs.YtdiflpbioohddaaDoor
end
section
namespace Go.Proofs.YtdiflpbioohddaaDoor
open Go.RowKit
theorem drew_belowS (w : World) : Below w.heap.size w w.drew := (Below.refl _ _).drew
end Go.Proofs.YtdiflpbioohddaaDoor
end
section
namespace Go.Proofs.YtdiflpbioohddaaDoor
open Go.RowKit
theorem box_rangeS {w : World} {g : Nat} {vs : List Value} (h : Box w g vs) : w.rangeAt g 0 vs := fun j v hv => (h.2.1 (0 + j)).trans (by rw [Nat.zero_add]; exact hv)
theorem MacAt.growN {w w' : World} {z : MacA} (h : MacAt w z) (hg : w.grownBy w' none) : MacAt w' z := ⟨h.1.kept hg (fun _ _ _ e => by cases e), h.2.1.kept hg (fun _ _ _ e => by cases e), h.2.2.kept hg (fun _ _ _ e => by cases e)⟩
theorem MacF.growN {b : Nat} {w w' : World} {z : MacA} (h : MacF b w z) (hg : w.grownBy w' none) : MacF b w' z := h.map fun a q t => ⟨q, by have hl := t.lt; obtain ⟨cs, r, e⟩ := t; exact ⟨cs, r, (hg.block a.block hl (by intro e; cases e)).trans e⟩⟩
end Go.Proofs.YtdiflpbioohddaaDoor
end
section
namespace Go.Proofs.YtdiflpbioohddaaDoor
open Go.RowKit
def rowF (l : List Int) (sign fr : Int) (k : Nat) : List (Int × Int) := (List.range l.length).map fun i => if i < k then (wrap64 (fr + i), wrap64 (sign * (l[i]?).getD 0)) else (0, 0)
theorem rowF_length (l : List Int) (sign fr : Int) (k : Nat) : (rowF l sign fr k).length = l.length := by simp [rowF]
theorem rowF_get {l : List Int} {sign fr : Int} {k i : Nat} (h : i < l.length) : (rowF l sign fr k)[i]? = some (if i < k then (wrap64 (fr + i), wrap64 (sign * (l[i]?).getD 0)) else (0, 0)) := by
 unfold rowF
 rw [List.getElem?_map, List.getElem?_range h]; rfl
theorem rowF_zero (l : List Int) (sign fr : Int) : rowF l sign fr 0 = List.replicate l.length (0, 0) := by
 apply List.ext_getElem?
 intro i
 rcases Nat.lt_or_ge i l.length with h | h
 ·rw [rowF_get h, List.getElem?_replicate, if_pos h]; simp
 ·rw [List.getElem?_eq_none (by rw [rowF_length]; exact h), List.getElem?_eq_none (by simpa using h)]
theorem rowF_succ {l : List Int} {sign fr : Int} {k : Nat} {x : Int} (h : l[k]? = some x) : rowF l sign fr (k + 1) = (rowF l sign fr k).set k (wrap64 (fr + k), wrap64 (sign * x)) := by
 have hk := (List.getElem?_eq_some_iff.1 h).1
 apply List.ext_getElem?
 intro i
 rw [List.getElem?_set, rowF_length]
 rcases Nat.lt_or_ge i l.length with h1 | h1
 ·rw [rowF_get h1]
  by_cases e : k = i
  ·subst e
   rw [if_pos rfl, if_pos hk, if_pos (by omega), h]; rfl
  ·rw [if_neg e, rowF_get h1]
   by_cases h2 : i < k
   ·rw [if_pos h2, if_pos (by omega)]
   ·rw [if_neg h2, if_neg (by omega)]
 ·rw [List.getElem?_eq_none (by rw [rowF_length]; exact h1), if_neg (by omega), List.getElem?_eq_none (by rw [rowF_length]; exact h1)]
theorem i64_w (x : Int) : I64 (wrap64 x) := by unfold I64 wrap64; omega
def RetTm (w : World) (ts : List (Int × Int)) (e : Ending) (w' : World) : Prop := ∃ v, e = .returned v ∧ OwnTm w.heap.size w' v ts ∧ Below w.heap.size w w'
set_option maxRecDepth 100000 in
set_option maxHeartbeats 2000000 in
theorem dr_row (A : Option Addr) (c n : Nat) (l : List Int) (sign fr : Int) (w : World) (h : Ints w A l) (hl : l.length = n) (hn : n ≤ 1000) :
  Calls Tryd.prog 64 #[.slice A n c, .int .i64 sign, .int .i64 fr] w (RetTm w (rowF l sign fr n)) := by
 have HL := Lib.hid hl
 have H := Lib.hid h
 have hx8 : n ≤ 100000000 := by omega
 clear hl h
 go_enter Tryd.func64, Tryd.ntmps64
 go_wp2_with (at_make; refine mk_term rfl _ _ rfl w.heap.size n rfl rfl rfl hx8 (Nat.le_refl _) ?_; intro w2 ho1 hb2)
 have HO := Lib.hid ho1
 have HB := Lib.hid hb2
 clear ho1 hb2
 go_loopw [15] (fun i wr => ∃ k : Nat, k ≤ n ∧ i = .int .i64 k ∧ OwnTm w.heap.size wr (.slice (some ⟨w.heap.size, 0, none⟩) n n) (rowF l sign fr k) ∧ Below w.heap.size w wr) (fun i _ => n - (intOf i).toNat)
 case atStart => exact ⟨0, Nat.zero_le _, rfl, by rw [rowF_zero, HL.out]; exact HO.out, HB.out⟩
 case round =>
  obtain ⟨k, hk, rfl, ho, hb⟩ := hrel
  by_cases hlt : k < n
  ·obtain ⟨ad, x, rfl, hba, hx, cx, x1, x2⟩ := (H.out.grow hb).at_ (k := k) (by rw [HL.out]; exact hlt)
   have HS := Lib.hid (rowF_succ (sign := sign) (fr := fr) hx)
   have hg := rowF_get (l := l) (sign := sign) (fr := fr) (k := k) (i := k) (by rw [HL.out]; exact hlt)
   rw [if_neg (Nat.lt_irrefl _)] at hg
   obtain ⟨t0, t1⟩ := ho.cells hg
   have f0 := ho.free (k * 2)
   have f1 := ho.free (k * 2 + 1)
   have y1 : (0 : Int) ≤ (k : Int) := by omega
   have y2 : (k : Int) < (n : Int) := by omega
   clear hg hx
   have HO2 := Lib.hid ho
   have HB2 := Lib.hid hb
   clear ho hb
   go_wp2_with fail
   go_roundw
   case rel => exact ⟨k + 1, by omega, by go_num, by rw [HS.out]; exact HO2.out.set k (t := (wrap64 (fr + k), wrap64 (sign * x))) (i64_w _) (i64_w _), (HB2.out.setCell (p := ⟨w.heap.size, _, none⟩) (Nat.le_refl _) _).setCell (p := ⟨w.heap.size, _, none⟩) (Nat.le_refl _) _⟩
   case measure => simp [intOf]; omega
  ·obtain rfl : k = n := by omega
   go_wp2_with fail
   go_ret
   exact ⟨_, rfl, ho, hb⟩
theorem flat_take {α : Type} {ns : List (List α)} {k : Nat} {ts : List α} (h : ns[k]? = some ts) : (ns.take (k + 1)).flatten = (ns.take k).flatten ++ ts := by
 rw [take_snoc' h, List.flatten_append]; simp
theorem flat_le {α : Type} {B : Nat} : ∀ {ns : List (List α)}, (∀ ts ∈ ns, ts.length ≤ B) → ns.flatten.length ≤ ns.length * B
 | [], _ => by simp
 | a :: l, h => by
  have h1 := flat_le (ns := l) fun ts ht => h ts (List.mem_cons_of_mem _ ht)
  have h2 := h a List.mem_cons_self
  rw [List.flatten_cons, List.length_append, List.length_cons, Nat.add_mul]
  omega
set_option maxRecDepth 100000 in
set_option maxHeartbeats 2000000 in
theorem dr_join (A : Option Addr) (c n : Nat) (ns : List (List (Int × Int))) (w : World) (h : NodesAt w A ns) (hl : ns.length = n) (hn : n ≤ 100) (hb : ∀ ts ∈ ns, ts.length ≤ 1000) :
  Calls Tryd.prog 63 #[.slice A n c] w (RetTm w ns.flatten) := by
 have HL := Lib.hid hl
 have H := Lib.hid h
 have HLE := Lib.hid hb
 clear hl h hb
 go_enter Tryd.func63, Tryd.ntmps63
 go_wp2_with fail
 go_loopw [3, 8] (fun v i wr => ∃ k : Nat, k ≤ n ∧ i = .int .i64 k ∧ OwnTm w.heap.size wr v (ns.take k).flatten ∧ Below w.heap.size w wr) (fun _ i _ => n - (intOf i).toNat)
 case atStart => exact ⟨0, Nat.zero_le _, rfl, by simpa using OwnTm.nil, Below.refl _ _⟩
 case round =>
  obtain ⟨k, hk, rfl, ho, hb⟩ := hrel
  by_cases hlt : k < n
  ·obtain ⟨ts, hts⟩ : ∃ ts, ns[k]? = some ts := ⟨_, List.getElem?_eq_getElem (by rw [HL.out]; exact hlt)⟩
   obtain ⟨ad, B, bc, rfl, hba, cn, hT⟩ := (H.out.grow hb) k ts hts
   have HS := Lib.hid (flat_take hts)
   have hlt1 := HLE.out ts (List.mem_of_getElem? hts)
   have hlf : (ns.take k).flatten.length ≤ k * 1000 := by
    have := flat_le (ns := ns.take k) fun ts ht => HLE.out ts (List.mem_of_mem_take ht)
    rw [List.length_take, Nat.min_eq_left (by rw [HL.out]; exact hk)] at this
    exact this
   have HLF : Hid ((ns.take k).flatten.length ≤ 100000) := by show _ ≤ _; omega
   obtain ⟨m, hm⟩ : ∃ m, ts.length = m := ⟨_, rfl⟩
   rw [hm] at cn hlt1
   have HM := Lib.hid hm
   have y1 : (0 : Int) ≤ (k : Int) := by omega
   have y2 : (k : Int) < (n : Int) := by omega
   have HT := Lib.hid hT
   have HO := Lib.hid ho
   have hsz := hb.size
   have HB := Lib.hid hb
   have HV := Lib.hid (fun q hq => (ho.1.lt q hq).1)
   clear hts hlf hT hm ho hb
   go_wp2_with (at_builtin; refine app_terms wr rfl _ _ rfl w.heap.size rfl rfl HO.out HT.out HM.out (by have := HLF.out; omega) hsz ?_; intro v3 w3 ho3 hg3 hob3)
   go_roundw
   case rel => exact ⟨k + 1, by omega, by go_num, by rw [HS.out]; exact ho3, HB.out.grown hg3 HB.out.size (fun q hq => HV.out q hq)⟩
   case measure => simp [intOf]; omega
  ·obtain rfl : k = n := by omega
   go_wp2_with fail
   go_ret
   exact ⟨_, rfl, by have := ho; rw [← HL.out, List.take_length] at this; exact this, hb⟩
def dlF (L : List Int) (o : Nat) (first source : Int) (k : Nat) : List Int := (List.range L.length).map fun i => if o ≤ i ∧ i < o + k then (if i = o then source else wrap64 (wrap64 (first + ((i - o : Nat) : Int)) - 1)) else (L[i]?).getD 0
theorem dlF_length (L : List Int) (o : Nat) (f s : Int) (k : Nat) : (dlF L o f s k).length = L.length := by simp [dlF]
theorem dlF_get {L : List Int} {o : Nat} {f s : Int} {k i : Nat} (h : i < L.length) : (dlF L o f s k)[i]? = some (if o ≤ i ∧ i < o + k then (if i = o then s else wrap64 (wrap64 (f + ((i - o : Nat) : Int)) - 1)) else (L[i]?).getD 0) := by
 unfold dlF
 rw [List.getElem?_map, List.getElem?_range h]; rfl
theorem dlF_zero (L : List Int) (o : Nat) (f s : Int) : dlF L o f s 0 = L := by
 apply List.ext_getElem?
 intro i
 rcases Nat.lt_or_ge i L.length with h | h
 ·rw [dlF_get h, if_neg (by omega), List.getElem?_eq_getElem h]; rfl
 ·rw [List.getElem?_eq_none (by rw [dlF_length]; exact h), List.getElem?_eq_none h]
theorem dlF_succ {L : List Int} {o : Nat} {f s : Int} {k : Nat} (h : o + k < L.length) : dlF L o f s (k + 1) = (dlF L o f s k).set (o + k) (if k = 0 then s else wrap64 (wrap64 (f + (k : Int)) - 1)) := by
 apply List.ext_getElem?
 intro i
 rw [List.getElem?_set, dlF_length]
 rcases Nat.lt_or_ge i L.length with h1 | h1
 ·rw [dlF_get h1]
  by_cases e : o + k = i
  ·subst e
   rw [if_pos rfl, if_pos h, if_pos (by omega), show o + k - o = k by omega]
   by_cases hk : k = 0
   ·rw [if_pos (by omega), if_pos hk]
   ·rw [if_neg (by omega), if_neg hk]
  ·rw [if_neg e, dlF_get h1]
   by_cases h2 : o ≤ i ∧ i < o + k
   ·rw [if_pos h2, if_pos (by omega)]
   ·rw [if_neg h2, if_neg (by omega)]
 ·rw [List.getElem?_eq_none (by rw [dlF_length]; exact h1), if_neg (by omega), List.getElem?_eq_none (by rw [dlF_length]; exact h1)]
theorem add_cellsO (g o k : Nat) : (⟨g, o, none⟩ : Addr).add k = ⟨g, o + k, none⟩ := by
 unfold Addr.add
 by_cases h0 : k = 0 <;> simp [h0]
set_option maxRecDepth 100000 in
set_option maxHeartbeats 2000000 in
theorem dr_delay (base g o m N C C' : Nat) (L : List Int) (first source : Int) (w : World) (h : Own base w (.slice (some ⟨g, 0, none⟩) N C) L) (hl : L.length = N) (hm : o + m ≤ N) (hN : N ≤ 1000) (hs : I64 source) :
  Calls Tryd.prog 65 #[.slice (some ⟨g, o, none⟩) m C', .int .i64 first, .int .i64 source] w fun e w' => e = .returned (.tuple #[]) ∧ Own base w' (.slice (some ⟨g, 0, none⟩) N C) (dlF L o first source m) ∧ w.grownBy w' (some g) := by
 have HL := Lib.hid hl
 have H := Lib.hid h
 have HS := Lib.hid hs
 clear hl h hs
 go_enter Tryd.func65, Tryd.ntmps65
 go_wp2_with fail
 go_loopw [9] (fun i wr => ∃ k : Nat, k ≤ m ∧ i = .int .i64 k ∧ Own base wr (.slice (some ⟨g, 0, none⟩) N C) (dlF L o first source k) ∧ w.grownBy wr (some g)) (fun i _ => m - (intOf i).toNat)
 case atStart => exact ⟨0, Nat.zero_le _, rfl, by rw [dlF_zero]; exact H.out, grown_refl _ _⟩
 case round =>
  obtain ⟨k, hk, rfl, ho, hb⟩ := hrel
  by_cases hlt : k < m
  ·have HU := Lib.hid (dlF_succ (L := L) (o := o) (f := first) (s := source) (k := k) (by rw [HL.out]; omega))
   have ct := ho.cell (dlF_get (L := L) (o := o) (f := first) (s := source) (k := k) (i := o + k) (by rw [HL.out]; omega))
   have cf := ho.free (o + k)
   have hA := add_cellsO g o k
   have y1 : (0 : Int) ≤ (k : Int) := by omega
   have y2 : (k : Int) < (m : Int) := by omega
   have HO := Lib.hid ho
   have HB := Lib.hid hb
   rw [if_neg (by omega)] at ct
   clear ho hb
   by_cases hk0 : k = 0
   ·rw [if_pos hk0] at HU
    have e0 : ((k : Int) == 0) = true := by simp; omega
    clear hk0
    go_wp2_with fail
    go_roundw
    case rel => exact ⟨k + 1, by omega, by go_num, by rw [HU.out]; exact HO.out.set (o + k) HS.out, grown_set HB.out⟩
    case measure => simp [intOf]; omega
   ·rw [if_neg hk0] at HU
    have e0 : ((k : Int) == 0) = false := by simp; omega
    clear hk0
    go_wp2_with fail
    go_roundw
    case rel => exact ⟨k + 1, by omega, by go_num, by rw [HU.out]; exact HO.out.set (o + k) (i64_w _), grown_set HB.out⟩
    case measure => simp [intOf]; omega
  ·obtain rfl : k = m := by omega
   have HO := Lib.hid ho
   have HB := Lib.hid hb
   clear ho hb
   go_wp2_with fail
   go_end0
   exact ⟨rfl, HO.out, HB.out⟩
theorem fits_24 {b f r o v : Int} (h : fitsW b f r o v = true) : -9223372036854775807 ≤ v ∧ v ≤ 9223372036854775807 := by
 unfold fitsW at h
 rw [Bool.and_eq_true, inB_iff] at h
 have := low_high b f r o
 omega
set_option maxRecDepth 100000 in
set_option maxHeartbeats 2000000 in
theorem dr_wrong (A B : Option Addr) (ca cb na nb : Nat) (a b : List Int) (d c : Int × Int × Int × Int) (w : World) (hA : Ints w A a) (hB : Ints w B b) (ha : a.length = na) (hb : b.length = nb)
  (hd : okW d.1 d.2.1 d.2.2.1 d.2.2.2 = true) (hc : okW c.1 c.2.1 c.2.2.1 c.2.2.2 = true) (hn : 1 ≤ nb ∧ nb ≤ 49 ∧ na ≤ 8) (fb : ∀ v ∈ b, fitsW c.1 c.2.1 c.2.2.1 c.2.2.2 v = true) (fa : ∀ v ∈ a, fitsW c.1 c.2.1 c.2.2.1 c.2.2.2 v = true ∧ fitsW c.1 c.2.1 c.2.2.1 c.2.2.2 (-v) = true) :
  Calls Tryd.prog 62 #[.slice B nb cb, .slice A na ca, wordV d.1 d.2.1 d.2.2.1 d.2.2.2, wordV c.1 c.2.1 c.2.2.1 c.2.2.2] w fun e w' => e = .returned (.int .i64 0) ∧ Below w.heap.size w w' := by
 obtain ⟨d0, d1, d2, d3⟩ := d
 obtain ⟨c0, c1, c2, c3⟩ := c
 obtain ⟨n1, n2, n3⟩ := hn
 simp only at hd hc fb fa ⊢
 have HD := Lib.hid hd
 have HC := Lib.hid hc
 have FB := Lib.hid fb
 have FA := Lib.hid fa
 have HLA := Lib.hid ha
 have HLB := Lib.hid hb
 have HA := Lib.hid hA
 have HB := Lib.hid hB
 have BX : Hid (∀ w', Below ((w.alloc (.cells #[.int .i64 d0, .int .i64 d1, .int .i64 d2, .int .i64 d3] 23)).alloc (.cells #[.int .i64 c0, .int .i64 c1, .int .i64 c2, .int .i64 c3] 23)).heap.size ((w.alloc (.cells #[.int .i64 d0, .int .i64 d1, .int .i64 d2, .int .i64 d3] 23)).alloc (.cells #[.int .i64 c0, .int .i64 c1, .int .i64 c2, .int .i64 c3] 23)) w' →
   w'.cell? ⟨w.heap.size + 1, 0, none⟩ = some (.int .i64 c0) ∧ w'.cell? ⟨w.heap.size + 1, 1, none⟩ = some (.int .i64 c1) ∧ w'.cell? ⟨w.heap.size + 1, 2, none⟩ = some (.int .i64 c2) ∧ w'.cell? ⟨w.heap.size + 1, 3, none⟩ = some (.int .i64 c3) ∧ Below w.heap.size w w') := fun w' h =>
  ⟨(h.cell (by simp)).trans (by simp [go_sem]), (h.cell (by simp)).trans (by simp [go_sem]), (h.cell (by simp)).trans (by simp [go_sem]), (h.cell (by simp)).trans (by simp [go_sem]), (((Below.refl _ _).alloc (Nat.le_refl _) _).alloc (by simp) _).trans (h.mono (by simp; omega))⟩
 have x1 : ((nb : Int) == 0) = false := by simp; omega
 have x2 : decide ((49 : Int) < (nb : Int)) = false := by simp; omega
 have x3 : decide ((8 : Int) < (na : Int)) = false := by simp; omega
 clear hd hc fb fa ha hb hA hB
 go_enter Tryd.func62, Tryd.ntmps62
 have BY := BX
 go_wp2_with (first | (go_at_call 67; with_reducible refine (fx_Valid_is (b := d0) (f := d1) (r := d2) (o := d3) HD.out _).mono ?_; rintro e w1 ⟨rfl, hb1⟩; obtain ⟨z1, z2, z3, z4, hb⟩ := BX.out _ hb1) | (go_at_call 67; with_reducible refine (fx_Valid_is (b := c0) (f := c1) (r := c2) (o := c3) HC.out _).mono ?_; rintro e w2 ⟨rfl, hb2⟩; have hbb := below_then hb1 hb2; obtain ⟨z1, z2, z3, z4, hb⟩ := BX.out _ hbb))
 clear x1 x2 x3 z1 z2 z3 z4 hb1 hb2 BX
 have HBB := Lib.hid hbb
 have HB0 := Lib.hid hb
 clear hbb hb
 have BX : Hid (∀ w', Below w2.heap.size w2 w' → w'.cell? ⟨w.heap.size + 1, 0, none⟩ = some (.int .i64 c0) ∧ w'.cell? ⟨w.heap.size + 1, 1, none⟩ = some (.int .i64 c1) ∧ w'.cell? ⟨w.heap.size + 1, 2, none⟩ = some (.int .i64 c2) ∧ w'.cell? ⟨w.heap.size + 1, 3, none⟩ = some (.int .i64 c3) ∧ Below w.heap.size w w') := fun w' h => BY.out w' (below_then HBB.out h)
 clear HBB BY
 go_loopw [36] (fun i wr => ∃ k : Nat, k ≤ nb ∧ i = .int .i64 k ∧ Below w2.heap.size w2 wr) (fun i _ => nb - (intOf i).toNat)
 case atStart => exact ⟨0, Nat.zero_le _, rfl, Below.refl _ _⟩
 case round =>
  obtain ⟨k, hk, rfl, hb⟩ := hrel
  obtain ⟨z1, z2, z3, z4, hbo⟩ := BX.out _ hb
  by_cases hlt : k < nb
  ·obtain ⟨ad, x, rfl, hba, hx, cx, i1, i2⟩ := (HB.out.grow hbo).at_ (k := k) (by rw [HLB.out]; exact hlt)
   have HFX := Lib.hid (FB.out x (List.mem_of_getElem? hx))
   have HBK := Lib.hid hb
   have y1 : (0 : Int) ≤ (k : Int) := by omega
   have y2 : (k : Int) < (nb : Int) := by omega
   clear hx hb
   go_wp2_with (first | (go_at_call 40; refine (fx_Fits _ _ _ _ _ _).mono ?_; rintro e w5 ⟨rfl, hb5⟩; rw [HFX.out]))
   go_roundw
   case rel => exact ⟨k + 1, by omega, by go_num, below_then HBK.out hb5⟩
   case measure => simp [intOf]; omega
  ·obtain rfl : k = nb := by omega
   have HBK := Lib.hid hb
   clear hb
   go_wp2_with fail
   clear z1 z2 z3 z4 hbo
   obtain ⟨wo, rfl⟩ : ∃ wo : World, wo = wr := ⟨_, rfl⟩
   go_loopw [47] (fun i wr => ∃ k : Nat, k ≤ na ∧ i = .int .i64 k ∧ Below w2.heap.size w2 wr) (fun i _ => na - (intOf i).toNat)
   case atStart => exact ⟨0, Nat.zero_le _, rfl, HBK.out⟩
   case round =>
    obtain ⟨j, hj, rfl, hb⟩ := hrel
    obtain ⟨z1, z2, z3, z4, hbo⟩ := BX.out _ hb
    by_cases hlt : j < na
    ·obtain ⟨ad, x, rfl, hba, hx, cx, i1, i2⟩ := (HA.out.grow hbo).at_ (k := j) (by rw [HLA.out]; exact hlt)
     have HFX := Lib.hid (FA.out x (List.mem_of_getElem? hx))
     have hx24 := fits_24 HFX.out.1
     have HBK := Lib.hid hb
     have y1 : (0 : Int) ≤ (j : Int) := by omega
     have y2 : (j : Int) < (na : Int) := by omega
     clear hx hb
     go_wp2_with (first
      | (go_at_call 40; with_reducible refine (fx_Fits c0 c1 c2 c3 x _).mono ?_; rintro e w5 ⟨rfl, hb5⟩; rw [HFX.out.1]; have hb6 := below_then HBK.out hb5; obtain ⟨y1, y2, y3, y4, _⟩ := BX.out _ hb6)
      | (go_at_call 40; with_reducible refine (fx_Fits c0 c1 c2 c3 (-x) _).mono ?_; rintro e w6 ⟨rfl, hb7⟩; rw [HFX.out.2]; have hb8 := below_then hb6 hb7))
     go_roundw
     case rel => exact ⟨j + 1, by omega, by go_num, hb8⟩
     case measure => simp [intOf]; omega
    ·obtain rfl : j = na := by omega
     go_wp2_with fail
     go_ret
     exact ⟨rfl, hbo⟩
end Go.Proofs.YtdiflpbioohddaaDoor
end
