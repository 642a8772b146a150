/- Several texts in one: Cw S15. -/
import Derived.Test.YtdiflpbioohddaaDoorhCv
import Derived.Test.YtdiflpbioohddaaDoorhCs
import Derived.Test.YtdiflpbioohddaaDoorhS8toY3
import Derived.Test.YtdiflpbioohddaaDoorhS3toCr
import Derived.Laws.EntriesVeiled
set_option linter.unusedVariables false
set_option linter.unusedSimpArgs false
section
namespace Go.Proofs.YtdiflpbioohddaaDoor
open Go.RowKit
theorem cg_last (st : Int) (ns : List (List (Int × Int))) : ∀ k, 0 ≤ (genC st ns k).2 ∧ (genC st ns k).2 ≤ 6
  | 0 => ⟨Int.le_refl _, by show (0 : Int) ≤ 6; decide⟩
  | k + 1 => by
    have h := nextR_in (cg_last st ns k).1
    show 0 ≤ nextR (genC st ns k).2 ∧ nextR (genC st ns k).2 ≤ 6
    omega
theorem cg_len {st : Int} {ns : List (List (Int × Int))} (h : ∀ (k : Nat) ts, ns[k]? = some ts → ts.length ≤ 64) : ∀ k, (genC st ns k).1.length ≤ 1 + 67 * k
  | 0 => by show 1 ≤ 1; omega
  | k + 1 => by
    have h1 := cg_len h k (st := st)
    have h2 : (ns.getD k []).length ≤ 64 := by
      rw [List.getD_eq_getElem?_getD]
      cases e : ns[k]? with
      | none => simp
      | some ts => exact h k ts e
    show ((genC st ns k).1 ++ nodeI (nextR (genC st ns k).2) (st + k) (ns.getD k [])).length ≤ _
    unfold nodeI
    simp only [List.length_append, List.length_cons, List.length_map, List.length_nil]
    omega
theorem advGo_len {src : List Int} : ∀ f (s : AdvS), AdvW src s → (advGo src f s).code.length ≤ s.code.length + 3 * advM src s
  | 0, s, _ => by show s.code.length ≤ _; omega
  | f + 1, s, hw => by
    by_cases h0 : s.left = 0
    · rw [adv_stop h0]; omega
    · rw [adv_next h0]
      have h1 := advGo_len f _ hw.round
      have h2 := round_len hw h0
      omega
theorem advF_len {code : List Ins} {last : Int} {src : List Int} : (advF code last src).code.length ≤ code.length + 3 * (2 * src.length + 1) := by
  have h1 := advGo_len (2 * src.length + 1) _ (adv0_w (code := code) (last := last) (src := src))
  have h2 := adv0_m (code := code) (last := last) (src := src)
  have h3 : (adv0 code last src).code.length = code.length := rfl
  unfold advF
  omega
def PrgD.zero : PrgD := ⟨0, 0, 0, 0, 0, 0, 0, 0, [], []⟩
def PrgA.zero : PrgA := ⟨PrgD.zero, none, none, 0, 0⟩
theorem prgAt_zero {w : World} : PrgAt w PrgA.zero := ⟨fun k t h => by simp [PrgA.zero, PrgD.zero] at h, fun k t h => by simp [PrgA.zero, PrgD.zero] at h⟩
theorem entryNP (w : World) (L : List Value) : ∀ W, W = ((w.alloc (.cells L.toArray 27)).alloc (.cells zeros10.toArray 41)) → W.heap[w.heap.size]? = some (.cells L.toArray 27 (0, 0)) ∧ W.heap[w.heap.size + 1]? = some (.cells zeros10.toArray 41 (0, 0)) ∧ Below w.heap.size w W ∧ W.heap.size = w.heap.size + 2 := fun W hW => by
  subst hW
  have h1 := heap_new w (.cells L.toArray 27)
  have h2 := heap_new (w.alloc (.cells L.toArray 27)) (.cells zeros10.toArray 41)
  have hs : (w.alloc (.cells L.toArray 27)).heap.size = w.heap.size + 1 := by simp
  rw [hs] at h2
  exact ⟨heap_keep ((Below.refl _ _).alloc (Nat.le_refl _) _) h1, h2, ((Below.refl w.heap.size w).alloc (Nat.le_refl _) _).alloc (by simp) _, by simp⟩
theorem box_heap {w : World} {g : Nat} {a : Array Value} {t : TypeId} (h : w.heap[g]? = some (.cells a t (0, 0))) : Box w g a.toList := ⟨lt_heap h, fun k => by rw [cell_heap h]; simp, fun k => frozen_heap h⟩
set_option maxRecDepth 100000 in
set_option maxHeartbeats 4000000 in
theorem cg_Compile_no (n : NetD) (NA XA : Option Addr) (nc xc : Nat) (w : World) (hn : NetAt w n NA XA) (hok : n.ok = false) :
    Calls Tryd.prog 10 #[.agg (n.lst NA nc XA xc).toArray] w (RetPrgE w PrgD.zero 2) := by
  have CV : Hid (∀ w1, Below w.heap.size w w1 → Calls Tryd.prog 34 #[.agg (n.lst NA nc XA xc).toArray] w1 fun e w' => e = .returned (.bool false) ∧ Below w1.heap.size w1 w') := fun w1 hb => by
    have h := hn.grow hb
    have := nw_Valid n.d0 n.d1 n.d2 n.d3 n.c0 n.c1 n.c2 n.c3 n.st n.out NA XA nc xc n.ns n.nx w1 h.nodes h.next h.n1 h.n2 h.n3 h.st
    rw [show netB _ _ _ _ _ _ _ _ _ _ _ _ = false from hok] at this; exact this
  have HLL : Hid ((n.lst NA nc XA xc).length = 12) := Lib.hid rfl
  generalize n.lst NA nc XA xc = L at CV HLL ⊢
  go_enter Tryd.func10, Tryd.ntmps10
  go_upto_region 1 with fail
  obtain ⟨bn, bp, hb0, hsz⟩ := entryNP w L _ rfl
  change Code.wp _ _ _ _ ((w.alloc (.cells L.toArray 27)).alloc (.cells zeros10.toArray 41))
  generalize ((w.alloc (.cells L.toArray 27)).alloc (.cells zeros10.toArray 41)) = W0 at bn bp hb0 hsz ⊢
  have HBN := Lib.hid (box_heap bn)
  have HBP := Lib.hid (box_heap bp)
  have HB0 := Lib.hid hb0
  clear bn bp hb0 hsz
  go_wp2_with (first
    | ((with_reducible show wpList _ _ _ (Oper.mk _ (.load 27 _) _ _ _ _ :: _) _ _); refine ld_netB1 HBN.out (by simpa using HLL.out) rfl _ rfl rfl ?_)
    | (go_at_call 34; (with_reducible refine (CV.out _ HB0.out).mono ?_); rintro e1 w1 ⟨rfl, hb1⟩; have HB1 := Lib.hid hb1; clear hb1)
    | ((with_reducible show wpList _ _ _ (Oper.mk none (.store 41 _ _) _ _ _ _ :: _) _ _); refine st_prgB (HBP.out.keep HB1.out) rfl (L := zeros10) rfl rfl rfl _ _ rfl rfl rfl ?_; intro w9 hb9 hg9))
  obtain ⟨dsc, hd1, hd2⟩ := row_prg
  refine bodyPost_ret (resCT rfl _ _ w9 (g := w.heap.size + 1) (v := .agg zeros10.toArray) rfl (res_box _ hb9 dsc hd1 hd2 size_prg)) rfl ?_
  exact ⟨PrgA.zero, rfl, rfl, prgAt_zero, grown_to (below_then HB0.out HB1.out) hg9 (by omega)⟩
set_option maxRecDepth 100000 in
set_option maxHeartbeats 8000000 in
theorem cg_Compile_ok (n : NetD) (NA XA : Option Addr) (nc xc : Nat) (w : World) (hf : FormsAt w) (hn : NetAt w n NA XA) (hok : n.ok = true) (hv : validB n.prg = true) :
    Calls Tryd.prog 10 #[.agg (n.lst NA nc XA xc).toArray] w (RetPrgE w n.prg 0) := by
  have CV : Hid (∀ w1, Below w.heap.size w w1 → Calls Tryd.prog 34 #[.agg (n.lst NA nc XA xc).toArray] w1 fun e w' => e = .returned (.bool true) ∧ Below w1.heap.size w1 w') := fun w1 hb => by
    have h := hn.grow hb
    have := nw_Valid n.d0 n.d1 n.d2 n.d3 n.c0 n.c1 n.c2 n.c3 n.st n.out NA XA nc xc n.ns n.nx w1 h.nodes h.next h.n1 h.n2 h.n3 h.st
    rw [show netB _ _ _ _ _ _ _ _ _ _ _ _ = true from hok] at this; exact this
  obtain ⟨-, -, ⟨p2, p3⟩, p4, p5, p6, p7, p8, p9⟩ := netB_parts hok
  have HP6 := Lib.hid p6
  have HP7 := Lib.hid p7
  have HN := Lib.hid hn
  have HF := Lib.hid hf
  have HV := Lib.hid hv
  obtain ⟨m, hm⟩ : ∃ m, n.ns.length = m := ⟨_, rfl⟩
  have HM := Lib.hid hm
  obtain ⟨L, hL⟩ : ∃ L, n.lst NA nc XA xc = L := ⟨_, rfl⟩
  have HL := Lib.hid hL
  have HLL : Hid (L.length = 12) := Lib.hid (by rw [← hL]; rfl)
  rw [hL] at CV ⊢
  have HP5 := Lib.hid p5
  clear hL hn hf hv p6 p7 hok hm p5
  go_enter Tryd.func10, Tryd.ntmps10
  go_upto_region 1 with fail
  obtain ⟨bn, bp, hb0, hsz⟩ := entryNP w L _ rfl
  change Code.wp _ _ _ _ ((w.alloc (.cells L.toArray 27)).alloc (.cells zeros10.toArray 41))
  generalize ((w.alloc (.cells L.toArray 27)).alloc (.cells zeros10.toArray 41)) = W0 at bn bp hb0 hsz ⊢
  have HBN := Lib.hid bn
  have HBP := Lib.hid bp
  have HB0 := Lib.hid hb0
  clear bn bp hb0
  go_upto_region 3 with (first
    | ((with_reducible show wpList _ _ _ (Oper.mk _ (.load 27 _) _ _ _ _ :: _) _ _); refine ld_netB1 (box_heap HBN.out) (by simpa using HLL.out) rfl _ rfl rfl ?_)
    | (go_at_call 34; (with_reducible refine (CV.out _ HB0.out).mono ?_); rintro e1 w1 ⟨rfl, hb1⟩; have HB1 := Lib.hid hb1; clear hb1))
  have HBN1 := Lib.hid (heap_keep HB1.out HBN.out)
  have HBP1 := Lib.hid (heap_keep HB1.out HBP.out)
  have HW1 := Lib.hid (below_then HB0.out HB1.out)
  have hs1 : w.heap.size + 2 ≤ w1.heap.size := by have := HB1.out.size; omega
  clear HBN HBP HB0 HB1 CV hsz
  have HBX : Hid (Box w1 w.heap.size [.int .i64 n.d0, .int .i64 n.d1, .int .i64 n.d2, .int .i64 n.d3, .int .i64 n.c0, .int .i64 n.c1, .int .i64 n.c2, .int .i64 n.c3, .int .i64 n.st, .slice NA n.ns.length nc, .slice XA n.nx.length xc, .int .i64 n.out]) := Lib.hid (by
    have h := box_heap HBN1.out
    rw [← HL.out] at h
    exact h)
  go_upto_region 4 with ((with_reducible show wpList _ _ _ (Oper.mk _ (.load 27 _) _ _ _ _ :: _) _ _); refine ld_netB1 HBX.out rfl rfl _ rfl rfl ?_)
  have hWe : w1.alloc (.cells #[.slice none 0 0, .int .i64 n.d0, .int .i64 n.d1, .int .i64 n.d2, .int .i64 n.d3, .int .i64 n.c0, .int .i64 n.c1, .int .i64 n.c2, .int .i64 n.c3, .int .i64 n.st, .slice NA n.ns.length nc, .slice XA n.nx.length xc, .int .i64 n.out, .int .i64 0] 86) = w1.alloc (.cells (Value.slice none 0 0 :: genR L 0).toArray 86) := by rw [← HL.out]; rfl
  rw [hWe]
  clear hWe
  have hnew := heap_new w1 (.cells (Value.slice none 0 0 :: genR L 0).toArray 86)
  have hnb : Below w1.heap.size w1 (w1.alloc (.cells (Value.slice none 0 0 :: genR L 0).toArray 86)) := (Below.refl _ _).alloc (Nat.le_refl _) _
  have hW2 := below_then HW1.out hnb
  have hkn := heap_keep hnb HBN1.out
  have hkp := heap_keep hnb HBP1.out
  obtain ⟨B, hB⟩ : ∃ b, b = w1.heap.size := ⟨_, rfl⟩
  rw [← hB] at hnew hs1 ⊢
  generalize w1.alloc (.cells (Value.slice none 0 0 :: genR L 0).toArray 86) = W2 at hnew hW2 hkn hkp ⊢
  obtain ⟨X, hX⟩ : ∃ X : List (Nat × Obj), X = [(w.heap.size, .cells L.toArray 27 (0, 0)), (w.heap.size + 1, .cells zeros10.toArray 41 (0, 0))] := ⟨_, rfl⟩
  have HG : Hid (GenAt w.heap.size B 86 (genR L 0) X W2 (.slice none 0 0) []) := Lib.hid (by
    refine ⟨hnew, OwnIR.nil, by omega, by decide, fun x hx => ?_⟩
    rw [hX] at hx
    rcases List.mem_cons.1 hx with rfl | hx
    · exact ⟨hkn, by show w.heap.size ≠ B; omega, by show 27 ≠ 109; decide⟩
    · obtain rfl := List.mem_singleton.1 hx
      exact ⟨hkp, by show w.heap.size + 1 ≠ B; omega, by show 41 ≠ 109; decide⟩)
  have HW2 := Lib.hid hW2
  have HXN : Hid (∀ W' v l R, GenAt w.heap.size B 86 R X W' v l → W'.heap[w.heap.size]? = some (.cells L.toArray 27 (0, 0)) ∧ W'.heap[w.heap.size + 1]? = some (.cells zeros10.toArray 41 (0, 0))) := Lib.hid fun W' v l R h => by
    have k := h.keep
    rw [hX] at k
    exact ⟨(k (w.heap.size, .cells L.toArray 27 (0, 0)) (by simp)).1, (k (w.heap.size + 1, .cells zeros10.toArray 41 (0, 0)) (by simp)).1⟩
  have HLE : Hid (∀ W' : World, W'.heap[w.heap.size]? = some (.cells L.toArray 27 (0, 0)) → Box W' w.heap.size [.int .i64 n.d0, .int .i64 n.d1, .int .i64 n.d2, .int .i64 n.d3, .int .i64 n.c0, .int .i64 n.c1, .int .i64 n.c2, .int .i64 n.c3, .int .i64 n.st, .slice NA m nc, .slice XA n.nx.length xc, .int .i64 n.out]) := Lib.hid fun W' h => by
    have h := box_heap h
    rw [← HL.out, ← HM.out] at *
    exact h
  clear hnew hnb hW2 hkn hkp hX HBX HBN1 HBP1 HW1 hB
  go_upto_region 5 with (go_at_call 35; (with_reducible refine (cg_emit 9 0 0 0 HG.out (ok_small (by omega) (by omega) (by omega) (by omega)) (by simp)).mono ?_); rintro e w3 ⟨rfl, hb3, v3, hg3⟩; have HG3 := Lib.hid hg3; have HW3 := Lib.hid (HW2.out.trans hb3); clear hg3 hb3)
  have zN := (HLE.out _ (HXN.out _ _ _ _ HG3.out).1).2.1 9
  have CN : Hid (∀ (k : Nat) ts w1 last v l, n.ns[k]? = some ts → Below w.heap.size w w1 → GenAt w.heap.size B 86 (genR L last) X w1 v l → l.length ≤ 500000 → 0 ≤ last ∧ last ≤ 6 → k ≤ 64 → Calls Tryd.prog 36 #[.pointer (some ⟨B, 0, none⟩), .int .i64 k] w1 (RetGen w.heap.size B 86 (genR L (nextR last)) X w1 (l ++ nodeI (nextR last) (n.st + k) ts))) := Lib.hid fun k ts w1 last v l hts hb hg hl hla hk => by
    have hg' := hg
    rw [← HL.out] at hg' ⊢
    obtain ⟨q1, q2⟩ := HP6.out k ts hts
    exact cg_node n NA XA nc xc HN.out.nodes hts hb hg' q1 hl ⟨p2, p3⟩ hk hla (fun t ht => by have := (q2 t ht).1; omega)
  have HG3' : Hid (GenAt w.heap.size B 86 (genR L (genC n.st n.ns 0).2) X w3 v3 (genC n.st n.ns 0).1) := HG3
  have hm64 : m ≤ 64 := by have := HM.out; omega
  go_wp2_with fail
  clear zN
  go_loopw [18] (fun i wr => ∃ (k : Nat) (vk : Value), k ≤ m ∧ i = .int .i64 k ∧ Hid (GenAt w.heap.size B 86 (genR L (genC n.st n.ns k).2) X wr vk (genC n.st n.ns k).1) ∧ Hid (Below w.heap.size w wr)) (fun i _ => m - (intOf i).toNat)
  case atStart => exact ⟨0, v3, Nat.zero_le _, rfl, HG3', HW3⟩
  case round =>
    obtain ⟨k, vk, hk, rfl, HGK, HWK⟩ := hrel
    by_cases hlt : k < m
    · obtain ⟨ts, hts⟩ : ∃ ts, n.ns[k]? = some ts := ⟨_, List.getElem?_eq_getElem (by rw [HM.out]; exact hlt)⟩
      have HTS := Lib.hid hts
      have HSU : Hid (genC n.st n.ns (k + 1) = ((genC n.st n.ns k).1 ++ nodeI (nextR (genC n.st n.ns k).2) (n.st + k) ts, nextR (genC n.st n.ns k).2)) := Lib.hid (by
        have e : n.ns.getD k [] = ts := by rw [List.getD_eq_getElem?_getD, hts]; rfl
        show ((genC n.st n.ns k).1 ++ nodeI (nextR (genC n.st n.ns k).2) (n.st + k) (n.ns.getD k []), nextR (genC n.st n.ns k).2) = _
        rw [e])
      have HLK : Hid ((genC n.st n.ns k).1.length ≤ 500000) := Lib.hid (by
        have := cg_len (st := n.st) (ns := n.ns) (fun k ts h => (HP6.out k ts h).1) k
        omega)
      have HLA := Lib.hid (cg_last n.st n.ns k)
      clear hts
      go_wp2_with (go_at_call 36; (with_reducible refine (CN.out k ts _ _ _ _ HTS.out HWK.out HGK.out HLK.out HLA.out (by omega)).mono ?_); rintro e w5 ⟨rfl, hb5, v5, hg5⟩)
      go_roundw
      case rel => exact ⟨k + 1, v5, by omega, by go_num, Lib.hid (by rw [HSU.out]; exact hg5), Lib.hid (HWK.out.trans hb5)⟩
      case measure => simp [intOf]; omega
    · obtain rfl : m = k := by omega
      have zO := (HLE.out _ (HXN.out _ _ _ _ HGK.out).1).2.1 11
      have HLA := Lib.hid (cg_last n.st n.ns m)
      have HLK : Hid ((genC n.st n.ns m).1.length ≤ 5000) := Lib.hid (by
        have := cg_len (st := n.st) (ns := n.ns) (fun k ts h => (HP6.out k ts h).1) m
        omega)
      have HBC : Hid (bodyC n.st n.out n.ns = ((genC n.st n.ns m).1 ++ fetchI n.out (genC n.st n.ns m).2 ++ [⟨10, fetchR n.out (genC n.st n.ns m).2, 0, 0⟩], fetchL n.out (genC n.st n.ns m).2)) := Lib.hid (by rw [← HM.out]; rfl)
      generalize genC n.st n.ns m = gc at HGK HLA HLK HBC
      have HOB : Hid (0 ≤ n.out ∧ n.out ≤ 1000000) := Lib.hid (by have := HM.out; omega)
      have hfr : 0 ≤ fetchR n.out gc.2 ∧ fetchR n.out gc.2 ≤ 6 := by
        have := nextR_in HLA.out.1
        unfold fetchR
        split <;> omega
      have HFL := Lib.hid (fetchL_in (v := n.out) HLA.out)
      have HLK2 : Hid ((gc.1 ++ fetchI n.out gc.2).length < 1000000) := Lib.hid (by
        have h1 : (fetchI n.out gc.2).length ≤ 1 := by unfold fetchI; split <;> simp
        have h2 := HLK.out
        rw [List.length_append]; omega)
      have HLK1 : Hid (gc.1.length < 1000000) := Lib.hid (by have := HLK.out; omega)
      obtain ⟨fr, hfe⟩ : ∃ f, fetchR n.out gc.2 = f := ⟨_, rfl⟩
      have HFE := Lib.hid hfe
      rw [hfe] at hfr
      clear hfe
      have HOK : Hid (⟨10, fr, 0, 0⟩ : Ins).ok := Lib.hid (ok_small (by omega) (by omega) (by omega) (by omega))
      go_upto_region 11 with (first
        | (go_at_call 37; (with_reducible refine (cg_fetch HGK.out HLL.out HLA.out HOB.out HLK1.out).mono ?_); rw [HFE.out]; rintro e w5 ⟨rfl, hb5, v5, hg5⟩; have HG5 := Lib.hid hg5; have HB5 := Lib.hid hb5; clear hg5 hb5)
        | (go_at_call 35; (with_reducible refine (cg_emit 10 fr 0 0 HG5.out HOK.out HLK2.out).mono ?_); rintro e w6 ⟨rfl, hb6, v6, hg6⟩; have HG6 := Lib.hid hg6; have HB6 := Lib.hid hb6; clear hg6 hb6))
      have HW6 := Lib.hid (HWK.out.trans (HB5.out.trans HB6.out))
      have HG7 : Hid (GenAt w.heap.size B 86 (genR L (bodyC n.st n.out n.ns).2) X w6 v6 (bodyC n.st n.out n.ns).1) := Lib.hid (by rw [HBC.out, HFE.out]; exact HG6.out)
      have HL7 : Hid ((bodyC n.st n.out n.ns).1.length ≤ 500000) := Lib.hid (by
        rw [HBC.out]
        have h2 := HLK2.out
        have h3 := HLK.out
        have h1 : (fetchI n.out gc.2).length ≤ 1 := by unfold fetchI; split <;> simp
        simp only [List.length_append, List.length_cons, List.length_nil]
        omega)
      have HLA7 : Hid (0 ≤ (bodyC n.st n.out n.ns).2 ∧ (bodyC n.st n.out n.ns).2 ≤ 6) := Lib.hid (by rw [HBC.out]; exact HFL.out)
      have HPR : Hid (n.prg.code = (advF (bodyC n.st n.out n.ns).1 (bodyC n.st n.out n.ns).2 n.nx).code ++ [⟨0, 0, 0, 0⟩]) := Lib.hid rfl
      clear HG6 HB5 HB6 HWK HGK zO HBC HFL HLK HLK1 HLK2 HLA HG5
      generalize bodyC n.st n.out n.ns = bc at HG7 HL7 HLA7 HPR
      have HX10 : Hid (L[10]? = some (.slice XA n.nx.length xc)) := Lib.hid (by rw [← HL.out]; rfl)
      have HN64 : Hid (n.nx.length ≤ 64) := Lib.hid (by have := HP5.out; omega)
      have HSR : Hid (∀ x ∈ n.nx, 0 ≤ x ∧ x ≤ 1000) := Lib.hid fun x hx => by
        have := HP7.out x hx
        have := HM.out
        omega
      have HAL : Hid ((advF bc.1 bc.2 n.nx).code.length < 1000000) := Lib.hid (by
        have := advF_len (code := bc.1) (last := bc.2) (src := n.nx)
        have := HL7.out
        have := HN64.out
        omega)
      go_upto_region 13 with (first
        | (go_at_call 38; (with_reducible refine (cg_advance XA xc HLL.out HX10.out HN.out.next HW6.out HG7.out HN64.out HL7.out HLA7.out HSR.out).mono ?_); rintro e w7 ⟨rfl, hb7, v7, hg7⟩; have HG8 := Lib.hid hg7; have HB7 := Lib.hid hb7; clear hg7 hb7)
        | (go_at_call 35; (with_reducible refine (cg_emit 0 0 0 0 HG8.out (ok_small (by omega) (by omega) (by omega) (by omega)) HAL.out).mono ?_); rw [← HPR.out]; rintro e w8 ⟨rfl, hb8, v8, hg8⟩; have HG9 := Lib.hid hg8; have HB8 := Lib.hid hb8; clear hg8 hb8))
      have HW8 := Lib.hid (HW6.out.trans (HB7.out.trans HB8.out))
      clear HG7 HG8 HB7 HB8 HW6 HPR HAL HSR HN64 HX10 HL7 HLA7
      obtain ⟨A, c, ev, hc, hi⟩ := HG9.out.own.form
      obtain ⟨cn, hcn⟩ : ∃ k, n.prg.code.length = k := ⟨_, rfl⟩
      have HCN := Lib.hid hcn
      rw [hcn] at ev
      subst ev
      have HI := Lib.hid hi
      have zL : w8.cell? ⟨B, 0, none⟩ = some (.slice A cn c) := by rw [cell_heap HG9.out.heap]; rfl
      have hbx := HLE.out _ (HXN.out _ _ _ _ HG9.out).1
      obtain ⟨z0, z1, z2, z3⟩ := (⟨hbx.2.1 0, hbx.2.1 1, hbx.2.1 2, hbx.2.1 3⟩ : _ ∧ _ ∧ _ ∧ _)
      obtain ⟨z4, z5, z6, z7⟩ := (⟨hbx.2.1 4, hbx.2.1 5, hbx.2.1 6, hbx.2.1 7⟩ : _ ∧ _ ∧ _ ∧ _)
      have HZP := Lib.hid (HXN.out _ _ _ _ HG9.out).2
      clear hc hi hcn hbx
      go_upto_region 14 with fail
      clear z0 z1 z2 z3 z4 z5 z6 z7 zL
      change Code.wp _ _ _ _ (w8.alloc (.cells (prgL n.d0 n.d1 n.d2 n.d3 n.c0 n.c1 n.c2 n.c3 (.slice none 0 0) (.slice A cn c)).toArray 41))
      have hQ := heap_new w8 (.cells (prgL n.d0 n.d1 n.d2 n.d3 n.c0 n.c1 n.c2 n.c3 (.slice none 0 0) (.slice A cn c)).toArray 41)
      have hnb : Below w8.heap.size w8 (w8.alloc (.cells (prgL n.d0 n.d1 n.d2 n.d3 n.c0 n.c1 n.c2 n.c3 (.slice none 0 0) (.slice A cn c)).toArray 41)) := (Below.refl _ _).alloc (Nat.le_refl _) _
      have hW9 := below_then HW8.out hnb
      have hI9 := HI.out.grow hnb
      have hP9 := heap_keep hnb HZP.out
      have hG9 := HG9.out.own.grow hnb
      obtain ⟨Q, hQe⟩ : ∃ b, b = w8.heap.size := ⟨_, rfl⟩
      rw [← hQe] at hQ ⊢
      generalize w8.alloc (.cells (prgL n.d0 n.d1 n.d2 n.d3 n.c0 n.c1 n.c2 n.c3 (.slice none 0 0) (.slice A cn c)).toArray 41) = W9 at hQ hW9 hI9 hP9 hG9 ⊢
      have HQ := Lib.hid (box_heap hQ)
      have HW9 := Lib.hid hW9
      have HI9 := Lib.hid hI9
      have HP9 := Lib.hid (box_heap hP9)
      have HO9 := Lib.hid hG9
      have HPH := Lib.hid hP9
      clear hQ hnb hW9 hI9 hP9 hG9 hQe HI HZP HG9 HW8
      have CP : Hid (Calls Tryd.prog 39 #[.agg (prgL n.d0 n.d1 n.d2 n.d3 n.c0 n.c1 n.c2 n.c3 (.slice none 0 0) (.slice A cn c)).toArray] W9 fun e w' => e = .returned (.bool true) ∧ Below W9.heap.size W9 w') := Lib.hid (by
        have h := pr_Valid (⟨n.prg, none, A, 0, c⟩ : PrgA) W9 (HF.out.grow HW9.out) ⟨fun k t h => by simp [NetD.prg, compD] at h, HI9.out⟩ (by show 0 ≤ _; omega) (by have := HCN.out; have := (valid_parts HV.out).2.2.1; show n.prg.code.length ≤ _; omega) HV.out
        have e : (⟨n.prg, none, A, 0, c⟩ : PrgA).v = .agg (prgL n.d0 n.d1 n.d2 n.d3 n.c0 n.c1 n.c2 n.c3 (.slice none 0 0) (.slice A cn c)).toArray := by
          rw [← HCN.out]; rfl
        rw [e] at h
        exact h)
      go_wp2_with (first
        | ((with_reducible show wpList _ _ _ (Oper.mk _ (.load 41 _) _ _ _ _ :: _) _ _); first | refine ld_prg (HQ.out.keep HB10.out) rfl rfl _ rfl rfl ?_ | refine ld_prg HQ.out rfl rfl _ rfl rfl ?_)
        | (go_at_call 39; (with_reducible refine CP.out.mono ?_); rintro e10 w10 ⟨rfl, hb10⟩; have HB10 := Lib.hid hb10; clear hb10)
        | ((with_reducible show wpList _ _ _ (Oper.mk none (.store 41 _ _) _ _ _ _ :: _) _ _); refine st_prgB (HP9.out.keep HB10.out) rfl (L := prgL n.d0 n.d1 n.d2 n.d3 n.c0 n.c1 n.c2 n.c3 (.slice none 0 0) (.slice A cn c)) rfl rfl rfl _ _ rfl rfl rfl ?_; intro w11 hb11 hg11))
      obtain ⟨dsc, hd1, hd2⟩ := row_prg
      refine bodyPost_ret (resCT rfl _ _ w11 (g := w.heap.size + 1) (v := .agg (prgL n.d0 n.d1 n.d2 n.d3 n.c0 n.c1 n.c2 n.c3 (.slice none 0 0) (.slice A cn c)).toArray) rfl (res_box _ hb11 dsc hd1 hd2 size_prg)) rfl ?_
      have hap := row_apart (HO9.out.grow HB10.out) (heap_keep HB10.out HPH.out) (show 41 ≠ 109 by decide)
      refine ⟨⟨n.prg, none, A, 0, c⟩, rfl, ?_, ⟨fun k t h => by simp [NetD.prg, compD] at h, (HI9.out.grow HB10.out).grown hg11 (fun a ha => by subst ha; intro e; exact hap e.symm)⟩, grown_to (below_then HW9.out HB10.out) hg11 (by omega)⟩
      rw [← HCN.out]; rfl
end Go.Proofs.YtdiflpbioohddaaDoor
end
section
namespace Go.Proofs.YtdiflpbioohddaaDoor
open Go.RowKit
structure MacA where
  (m : Mac)
  (GA MA HA : Option Addr)
  (gc mc hc : Nat)
def MacA.lst (x : MacA) : List Value := [.slice x.GA x.m.regs.length x.gc, .slice x.MA x.m.mem.length x.mc, .slice x.HA x.m.heads.length x.hc, .int .i64 x.m.cyc, .int .i64 x.m.stl]
def MacA.v (x : MacA) : Value := .agg x.lst.toArray
def MacAt (w : World) (x : MacA) : Prop := Ints w x.GA x.m.regs ∧ Ints w x.MA x.m.mem ∧ Ints w x.HA x.m.heads
theorem MacAt.grow {w w' : World} {x : MacA} (h : MacAt w x) (hb : Below w.heap.size w w') : MacAt w' x := ⟨h.1.grow hb, h.2.1.grow hb, h.2.2.grow hb⟩
def MacLen (m : Mac) : Prop := m.regs.length ≤ 9223372036854775807 ∧ m.mem.length ≤ 9223372036854775807 ∧ m.heads.length ≤ 9223372036854775807
def RetIdx (w : World) (b : Bool) (e : Ending) (w' : World) : Prop := ∃ r : Int, e = .returned (.int .i64 r) ∧ decide (0 ≤ r) = b ∧ Below w.heap.size w w'
theorem RetIdx.mk {w w' : World} {b : Bool} {r : Int} (h : decide (0 ≤ r) = b) (hb : Below w.heap.size w w') : RetIdx w b (.returned (.int .i64 r)) w' := ⟨r, rfl, h, hb⟩
theorem sm_foreign (d : PrgD) (L : List Value) (g : Nat) (v : Int) (w : World) (hb : Box w g L) (hL : L.take 4 = [.int .i64 d.d0, .int .i64 d.d1, .int .i64 d.d2, .int .i64 d.d3]) {c : Bool} (hc : fitD d v = c) :
    Calls Tryd.prog 74 #[.int .i64 v, .pointer (some ⟨g, 0, none⟩)] w fun e w' => e = .returned (.bool (!c)) ∧ Below w.heap.size w w' := by
  have hk : ∀ k, k < 4 → w.cell? ⟨g, k, none⟩ = (L.take 4)[k]? := fun k h => by rw [List.getElem?_take, if_pos h]; exact hb.2.1 k
  rw [hL] at hk
  have x0 : w.cell? ⟨g, 0, none⟩ = some (.int .i64 d.d0) := hk 0 (by decide)
  have x1 : w.cell? ⟨g, 1, none⟩ = some (.int .i64 d.d1) := hk 1 (by decide)
  have x2 : w.cell? ⟨g, 2, none⟩ = some (.int .i64 d.d2) := hk 2 (by decide)
  have x3 : w.cell? ⟨g, 3, none⟩ = some (.int .i64 d.d3) := hk 3 (by decide)
  have HC : Hid (fitsW d.d0 d.d1 d.d2 d.d3 v = c) := Lib.hid hc
  clear hk hL hb hc
  go_enter Tryd.func74, Tryd.ntmps74
  go_wp2_with (go_at_call 40; (with_reducible refine (fits_is HC.out _).mono ?_); rintro e1 w1 ⟨rfl, hb1⟩)
  go_ret
  exact ⟨rfl, hb1⟩
set_option maxRecDepth 100000 in
theorem sl_IndexFunc (d : PrgD) (L : List Value) (g : Nat) (A : Option Addr) (n c : Nat) (l : List Int) (w : World) (h : Ints w A l) (hn : l.length = n) (h9 : n ≤ 9223372036854775807) (hb : Box w g L) (hL : L.take 4 = [.int .i64 d.d0, .int .i64 d.d1, .int .i64 d.d2, .int .i64 d.d3]) :
    Calls Tryd.prog 102 #[.slice A n c, .func (.func 74) #[] #[.pointer (some ⟨g, 0, none⟩)]] w (RetIdx w (!wordD d l)) := by
  have HI := Lib.hid h
  have HN := Lib.hid hn
  have HB := Lib.hid hb
  have HL := Lib.hid hL
  clear h hn hb hL
  go_enter Tryd.func102, Tryd.ntmps102
  go_wp2_with fail
  go_loopw [8] (fun x wr => ∃ k : Nat, k ≤ n ∧ x = .int .i64 k ∧ Hid (wordD d (l.take k) = true) ∧ Hid (Below w.heap.size w wr)) (fun x _ => n - (intOf x).toNat)
  case atStart => exact ⟨0, Nat.zero_le _, rfl, Lib.hid rfl, Lib.hid (Below.refl _ _)⟩
  case round =>
    obtain ⟨k, hk, rfl, HT, HW⟩ := hrel
    by_cases hlt : k < n
    · obtain ⟨ad, x, rfl, hbk, hx, hc, i1, i2⟩ := (HI.out.grow HW.out).at_ (k := k) (by rw [HN.out]; exact hlt)
      have q1 : (0 : Int) ≤ (k : Int) := by omega
      have q2 : (k : Int) < (n : Int) := by omega
      have wk : IntKind.i64.wrap ((k : Int) + 1) = ((k + 1 : Nat) : Int) := (IntWalk.i64_in _ (by omega)).trans (by omega)
      obtain ⟨b, hb⟩ : ∃ b, fitD d x = b := ⟨_, rfl⟩
      have HFB := Lib.hid hb
      have HX := Lib.hid hx
      have HTK := Lib.hid (take_snoc' hx)
      clear hbk hx hb
      cases b with
      | true =>
        go_wp2_with (go_at_call 74; (with_reducible refine (sm_foreign d L g x _ (HB.out.keep HW.out) HL.out HFB.out).mono ?_); rintro e1 w1 ⟨rfl, hb1⟩)
        go_roundw
        case rel => exact ⟨k + 1, by omega, by go_num, by
          rw [HTK.out]
          have h := HT.out
          unfold wordD wordsB at h ⊢
          rw [List.all_append, h, List.all_cons, List.all_nil]
          have h2 := HFB.out
          unfold fitD at h2
          rw [h2]
          exact Lib.hid rfl, Lib.hid (below_then HW.out hb1)⟩
        case measure => simp [intOf]; omega
      | false =>
        go_wp2_with (go_at_call 74; (with_reducible refine (sm_foreign d L g x _ (HB.out.keep HW.out) HL.out HFB.out).mono ?_); rintro e1 w1 ⟨rfl, hb1⟩)
        go_ret
        refine RetIdx.mk ?_ (below_then HW.out hb1)
        have hno : wordD d l = false := by
          unfold wordD wordsB
          exact all_no HX.out (by have h2 := HFB.out; unfold fitD at h2; exact h2)
        rw [hno, decide_eq_true q1]; rfl
    · obtain rfl : k = n := by omega
      go_wp2_with fail
      go_ret
      refine RetIdx.mk ?_ HW.out
      have h := HT.out
      rw [List.take_of_length_le (by rw [HN.out]; exact Nat.le_refl _)] at h
      rw [h]; rfl
set_option maxRecDepth 100000 in
theorem sl_ContainsFunc (d : PrgD) (L : List Value) (g : Nat) (A : Option Addr) (n c : Nat) (l : List Int) (w : World) (h : Ints w A l) (hn : l.length = n) (h9 : n ≤ 9223372036854775807) (hb : Box w g L) (hL : L.take 4 = [.int .i64 d.d0, .int .i64 d.d1, .int .i64 d.d2, .int .i64 d.d3]) {b : Bool} (hw : wordD d l = b) :
    Calls Tryd.prog 75 #[.slice A n c, .func (.func 74) #[] #[.pointer (some ⟨g, 0, none⟩)]] w fun e w' => e = .returned (.bool (!b)) ∧ Below w.heap.size w w' := by
  have CI := Lib.hid (sl_IndexFunc d L g A n c l w h hn h9 hb hL)
  rw [hw] at CI
  clear h hn hb hL hw
  go_enter Tryd.func75, Tryd.ntmps75
  go_wp2_with (go_at_call 102; (with_reducible refine CI.out.mono ?_); rintro e1 w1 ⟨r, rfl, hr, hb1⟩)
  go_ret
  exact ⟨rfl, hb1⟩
end Go.Proofs.YtdiflpbioohddaaDoor
end
