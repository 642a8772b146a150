/- The walk of Valid of the reference of layer 22. -/
import Derived.Test.YtdiflpbioohddaaDoorhG3toG7
set_option linter.unusedVariables false
set_option linter.unusedSimpArgs false
namespace Go.Proofs.YtdiflpbioohddaaDoor
open Go.RowKit
theorem below_net {w w' : World} {o : Obj} (h : Below (w.alloc o).heap.size (w.alloc o) w') : Below (w.heap.size + 1) (w.alloc o) w' := h.mono (by simp)
theorem below_net3 {w w1 w2 : World} {o : Obj} (hb : Below (w.heap.size + 1) (w.alloc o) w1) (hb1 : Below w1.heap.size w1 w2) : Below (w.heap.size + 1) (w.alloc o) w2 := hb.trans (hb1.mono (by have := hb.size; simpa using this))
theorem below_net2 {w w' : World} {o : Obj} (h : Below (w.heap.size + 1) (w.alloc o) w') : Below w.heap.size w w' := ((Below.refl _ _).alloc (Nat.le_refl _) o).trans (h.mono (by omega))
structure NetP (w : World) (P : World → Prop) (d0 d1 d2 d3 c0 c1 c2 c3 st : Int) (NA : Option Addr) (ns : List (List (Int × Int))) (nn nc : Nat) (XA : Option Addr) (nx : List Int) (xn xc : Nat) (out : Int) : Prop where
  go : ∀ w1 w2, P w1 → Below w1.heap.size w1 w2 → P w2
  al : ∀ w1 o, P w1 → P (w1.alloc o)
  old : ∀ w1, P w1 → Below w.heap.size w w1
  cells : ∀ w1, P w1 → w1.cell? ⟨w.heap.size, 4, none⟩ = some (.int .i64 c0) ∧ w1.cell? ⟨w.heap.size, 5, none⟩ = some (.int .i64 c1) ∧ w1.cell? ⟨w.heap.size, 6, none⟩ = some (.int .i64 c2) ∧ w1.cell? ⟨w.heap.size, 7, none⟩ = some (.int .i64 c3) ∧
      w1.cell? ⟨w.heap.size, 8, none⟩ = some (.int .i64 st) ∧ w1.cell? ⟨w.heap.size, 9, none⟩ = some (.slice NA nn nc) ∧ w1.cell? ⟨w.heap.size, 10, none⟩ = some (.slice XA xn xc) ∧ w1.cell? ⟨w.heap.size, 11, none⟩ = some (.int .i64 out)
  nodes : ∀ w1, P w1 → NodesAt w1 NA ns
  next : ∀ w1, P w1 → Ints w1 XA nx
  lt : ∀ w1, P w1 → w.heap.size < w1.heap.size
theorem netP_mk {w : World} {d0 d1 d2 d3 c0 c1 c2 c3 st : Int} {NA : Option Addr} {ns : List (List (Int × Int))} {nn nc : Nat} {XA : Option Addr} {nx : List Int} {xn xc : Nat} {out : Int} (hN : NodesAt w NA ns) (hX : Ints w XA nx) :
    NetP w (Below (w.heap.size + 1) (w.alloc (.cells #[.int .i64 d0, .int .i64 d1, .int .i64 d2, .int .i64 d3, .int .i64 c0, .int .i64 c1, .int .i64 c2, .int .i64 c3, .int .i64 st, .slice NA nn nc, .slice XA xn xc, .int .i64 out] 27))) d0 d1 d2 d3 c0 c1 c2 c3 st NA ns nn nc XA nx xn xc out where
  go := fun w1 w2 h1 h2 => below_net3 h1 h2
  al := fun w1 o h1 => h1.alloc (by have := h1.size; simpa using this) o
  old := fun w1 h1 => below_net2 h1
  cells := fun w' h =>
    ⟨(h.cell (Nat.lt_succ_self _)).trans (by simp [go_sem]), (h.cell (Nat.lt_succ_self _)).trans (by simp [go_sem]), (h.cell (Nat.lt_succ_self _)).trans (by simp [go_sem]), (h.cell (Nat.lt_succ_self _)).trans (by simp [go_sem]), (h.cell (Nat.lt_succ_self _)).trans (by simp [go_sem]), (h.cell (Nat.lt_succ_self _)).trans (by simp [go_sem]), (h.cell (Nat.lt_succ_self _)).trans (by simp [go_sem]), (h.cell (Nat.lt_succ_self _)).trans (by simp [go_sem])⟩
  nodes := fun w1 h1 => hN.grow (below_net2 h1)
  next := fun w1 h1 => hX.grow (below_net2 h1)
  lt := fun w1 h1 => by have := h1.size; simp at this; omega
theorem cell_al2 {wr w5 : World} {a b : Value} {T : TypeId} (h : Below (wr.alloc (.cells #[a, b] T)).heap.size (wr.alloc (.cells #[a, b] T)) w5) : w5.cell? ⟨wr.heap.size, 0, none⟩ = some a ∧ w5.cell? ⟨wr.heap.size, 1, none⟩ = some b :=
  ⟨(h.cell (by simp)).trans (by simp [go_sem]), (h.cell (by simp)).trans (by simp [go_sem])⟩
theorem netB_nodes {d0 d1 d2 d3 c0 c1 c2 c3 st out : Int} {ns : List (List (Int × Int))} {nx : List Int} (h : nodesB c0 c1 c2 c3 st ns ns.length = false) : netB d0 d1 d2 d3 c0 c1 c2 c3 st ns nx out = false := by
  unfold netB; rw [h]; simp
theorem nodeB_terms {c0 c1 c2 c3 last : Int} {ts : List (Int × Int)} (h : ts.all (termB c0 c1 c2 c3 last) = false) : nodeB c0 c1 c2 c3 last ts = false := by unfold nodeB; rw [h]; simp
theorem nodeB_long {c0 c1 c2 c3 last : Int} {ts : List (Int × Int)} (h : ¬ ts.length ≤ 64) : nodeB c0 c1 c2 c3 last ts = false := by unfold nodeB; rw [decide_eq_false h]; simp
theorem netB_next {d0 d1 d2 d3 c0 c1 c2 c3 st out : Int} {ns : List (List (Int × Int))} {nx : List Int} (h : (nx.all fun v => inB v 0 (st + ns.length)) = false) : netB d0 d1 d2 d3 c0 c1 c2 c3 st ns nx out = false := by
  unfold netB; rw [h]; simp
theorem netB_end {d0 d1 d2 d3 c0 c1 c2 c3 st out : Int} {ns : List (List (Int × Int))} {nx : List Int} (h1 : netHeadB d0 d1 d2 d3 c0 c1 c2 c3 st ns.length nx.length = true) (h2 : nodesB c0 c1 c2 c3 st ns ns.length = true) (h3 : (nx.all fun v => inB v 0 (st + ns.length)) = true) : netB d0 d1 d2 d3 c0 c1 c2 c3 st ns nx out = inB out 0 (st + ns.length) := by
  unfold netB; rw [h1, h2, h3]; simp
theorem termB_eq {c0 c1 c2 c3 last Q f v : Int} (hQ : (2 : Int) ^ c1.toNat = Q) : termB c0 c1 c2 c3 last (f, v) = (inB f 0 last && (fitsW c0 c1 c2 c3 v || v == Q)) := by unfold termB; rw [hQ]
theorem netB_head {d0 d1 d2 d3 c0 c1 c2 c3 st out : Int} {ns : List (List (Int × Int))} {nx : List Int} (h : netHeadB d0 d1 d2 d3 c0 c1 c2 c3 st ns.length nx.length = false) : netB d0 d1 d2 d3 c0 c1 c2 c3 st ns nx out = false := by
  unfold netB; rw [h]; rfl
set_option maxRecDepth 100000 in
set_option maxHeartbeats 4000000 in
theorem r22_Valid (d0 d1 d2 d3 c0 c1 c2 c3 st out : Int) (NA XA : Option Addr) (nc xc : Nat) (ns : List (List (Int × Int))) (nx : List Int) (w : World) (hN : NodesAt w NA ns) (hX : Ints w XA nx) (h1 : ns.length ≤ 9223372036854775807) (h2 : nx.length ≤ 9223372036854775807) (h3 : ∀ ts ∈ ns, ts.length ≤ 9223372036854775807) (hst : I64 st) :
    Calls Tryd.prog 9 #[netV d0 d1 d2 d3 c0 c1 c2 c3 st NA ns.length nc XA nx.length xc out] w (BoolBw w (netB d0 d1 d2 d3 c0 c1 c2 c3 st ns nx out)) := by
  unfold netV
  obtain ⟨nn, hnn⟩ : ∃ n, ns.length = n := ⟨_, rfl⟩
  obtain ⟨xn, hxn⟩ : ∃ n, nx.length = n := ⟨_, rfl⟩
  have HNN := Lib.hid hnn
  have HXN := Lib.hid hxn
  rw [hnn] at h1 ⊢
  rw [hxn] at h2 ⊢
  have H3 := Lib.hid h3
  have HN := Lib.hid hN
  have HX := Lib.hid hX
  clear hnn hxn h3 hN hX
  have BX : Hid (∀ w', Below (w.heap.size + 1) (w.alloc (.cells #[.int .i64 d0, .int .i64 d1, .int .i64 d2, .int .i64 d3, .int .i64 c0, .int .i64 c1, .int .i64 c2, .int .i64 c3, .int .i64 st, .slice NA nn nc, .slice XA xn xc, .int .i64 out] 27)) w' →
      w'.cell? ⟨w.heap.size, 4, none⟩ = some (.int .i64 c0) ∧ w'.cell? ⟨w.heap.size, 5, none⟩ = some (.int .i64 c1) ∧ w'.cell? ⟨w.heap.size, 6, none⟩ = some (.int .i64 c2) ∧ w'.cell? ⟨w.heap.size, 7, none⟩ = some (.int .i64 c3) ∧
      w'.cell? ⟨w.heap.size, 8, none⟩ = some (.int .i64 st) ∧ w'.cell? ⟨w.heap.size, 9, none⟩ = some (.slice NA nn nc) ∧ w'.cell? ⟨w.heap.size, 10, none⟩ = some (.slice XA xn xc) ∧ w'.cell? ⟨w.heap.size, 11, none⟩ = some (.int .i64 out)) := fun w' h =>
    ⟨(h.cell (Nat.lt_succ_self _)).trans (by simp [go_sem]), (h.cell (Nat.lt_succ_self _)).trans (by simp [go_sem]), (h.cell (Nat.lt_succ_self _)).trans (by simp [go_sem]), (h.cell (Nat.lt_succ_self _)).trans (by simp [go_sem]), (h.cell (Nat.lt_succ_self _)).trans (by simp [go_sem]), (h.cell (Nat.lt_succ_self _)).trans (by simp [go_sem]), (h.cell (Nat.lt_succ_self _)).trans (by simp [go_sem]), (h.cell (Nat.lt_succ_self _)).trans (by simp [go_sem])⟩
  rcases hD : okW d0 d1 d2 d3 with _ | _
  · have HD := Lib.hid hD
    have HF := Lib.hid (netB_head (out := out) (ns := ns) (nx := nx) (show netHeadB d0 d1 d2 d3 c0 c1 c2 c3 st ns.length nx.length = false by unfold netHeadB; rw [HD.out]; rfl))
    go_enter Tryd.func9, Tryd.ntmps9
    go_wp2_with (first | (go_at_call 31; with_reducible refine (rf_Valid_is (b := d0) (f := d1) (r := d2) (o := d3) HD.out _).mono ?_; rintro e w1 ⟨rfl, hb1⟩; have hb := below_net hb1; obtain ⟨z1, z2, z3, z4, z5, z6, z7, z8⟩ := BX.out _ hb))
    go_ret
    exact ⟨ret_bool HF.out.symm, below_net2 hb⟩
  · have HD := Lib.hid hD
    clear hD
    rcases hC : okW c0 c1 c2 c3 with _ | _
    · have HC := Lib.hid hC
      clear hC
      have HF := Lib.hid (netB_head (out := out) (ns := ns) (nx := nx) (show netHeadB d0 d1 d2 d3 c0 c1 c2 c3 st ns.length nx.length = false by unfold netHeadB; rw [HD.out, HC.out]; rfl))
      go_enter Tryd.func9, Tryd.ntmps9
      go_wp2_with (first | (go_at_call 31; with_reducible refine (rf_Valid_is (b := d0) (f := d1) (r := d2) (o := d3) HD.out _).mono ?_; rintro e w1 ⟨rfl, hb1⟩; have hb := below_net hb1; obtain ⟨z1, z2, z3, z4, z5, z6, z7, z8⟩ := BX.out _ hb) | (go_at_call 31; with_reducible refine (rf_Valid_is (b := c0) (f := c1) (r := c2) (o := c3) HC.out _).mono ?_; rintro e w2 ⟨rfl, hb1⟩; have hb := below_net3 hb hb1; obtain ⟨z1, z2, z3, z4, z5, z6, z7, z8⟩ := BX.out _ hb))
      go_ret
      exact ⟨ret_bool HF.out.symm, below_net2 hb⟩
    · have HC := Lib.hid hC
      clear hC
      rcases hI : inB st 0 64 with _ | _
      · have HI := Lib.hid hI
        clear hI
        have HF := Lib.hid (netB_head (out := out) (ns := ns) (nx := nx) (show netHeadB d0 d1 d2 d3 c0 c1 c2 c3 st ns.length nx.length = false by unfold netHeadB; rw [HD.out, HC.out, HI.out]; rfl))
        go_enter Tryd.func9, Tryd.ntmps9
        go_wp2_with (first | (go_at_call 31; with_reducible refine (rf_Valid_is (b := d0) (f := d1) (r := d2) (o := d3) HD.out _).mono ?_; rintro e w1 ⟨rfl, hb1⟩; have hb := below_net hb1; obtain ⟨z1, z2, z3, z4, z5, z6, z7, z8⟩ := BX.out _ hb) | (go_at_call 31; with_reducible refine (rf_Valid_is (b := c0) (f := c1) (r := c2) (o := c3) HC.out _).mono ?_; rintro e w2 ⟨rfl, hb1⟩; have hb := below_net3 hb hb1; obtain ⟨z1, z2, z3, z4, z5, z6, z7, z8⟩ := BX.out _ hb) | (go_at_call 32; refine (rf_In _ _ _ _).mono ?_; rintro e w3 ⟨rfl, rfl⟩; rw [HI.out]))
        go_ret
        exact ⟨ret_bool HF.out.symm, below_net2 hb⟩
      · have HI := Lib.hid hI
        clear hI
        by_cases hn64 : nn ≤ 64
        · have x1 : decide ((64 : Int) < (nn : Int)) = false := by simp; omega
          by_cases hxs : (xn : Int) = st
          · subst hxs
            have hPB : ∃ P : World → Prop, (∀ w', Below (w.alloc (.cells #[.int .i64 d0, .int .i64 d1, .int .i64 d2, .int .i64 d3, .int .i64 c0, .int .i64 c1, .int .i64 c2, .int .i64 c3, .int .i64 (xn : Int), .slice NA nn nc, .slice XA xn xc, .int .i64 out] 27)).heap.size (w.alloc (.cells #[.int .i64 d0, .int .i64 d1, .int .i64 d2, .int .i64 d3, .int .i64 c0, .int .i64 c1, .int .i64 c2, .int .i64 c3, .int .i64 (xn : Int), .slice NA nn nc, .slice XA xn xc, .int .i64 out] 27)) w' → P w') ∧ NetP w P d0 d1 d2 d3 c0 c1 c2 c3 (xn : Int) NA ns nn nc XA nx xn xc out := ⟨_, fun w' h => below_net h, netP_mk HN.out HX.out⟩
            obtain ⟨P, PF0, PN0⟩ := hPB
            have PF := Lib.hid PF0
            have PN := Lib.hid PN0
            clear PF0 PN0
            have ho := okW_iff.1 HC.out
            obtain ⟨o1, o2, o3, o4, -⟩ := ho
            have o5 : c1.toNat ≤ 61 := by omega
            obtain ⟨Q, hQ⟩ : ∃ Q, (2 : Int) ^ c1.toNat = Q := ⟨_, rfl⟩
            have q0 : 0 < Q := by rw [← hQ]; exact pow_pos' _
            have e1 : IntKind.i64.wrap ((2 : Int) ^ c1.toNat) = Q := by rw [← hQ]; exact IntWalk.i64_in _ (by have := pow_pos' c1.toNat; have := pow_62 (n := c1.toNat) (by omega); omega)
            have HE1 := Lib.hid e1
            have HQ := Lib.hid hQ
            have hi := inB_iff.1 HI.out
            obtain ⟨s1, s2⟩ := hi
            have HNH : Hid (netHeadB d0 d1 d2 d3 c0 c1 c2 c3 (xn : Int) ns.length nx.length = true) := Lib.hid (by unfold netHeadB; rw [HD.out, HC.out, HI.out, HNN.out, HXN.out, decide_eq_true hn64]; simp)
            clear hQ BX HN HX e1
            have H2 := Lib.hid h2
            clear h2
            go_enter Tryd.func9, Tryd.ntmps9
            go_wp2_with (first | (go_at_call 31; with_reducible refine (rf_Valid_is (b := d0) (f := d1) (r := d2) (o := d3) HD.out _).mono ?_; rintro e w1 ⟨rfl, hb1⟩; have hp := PF.out _ hb1; obtain ⟨z1, z2, z3, z4, z5, z6, z7, z8⟩ := PN.out.cells _ hp) | (go_at_call 31; with_reducible refine (rf_Valid_is (b := c0) (f := c1) (r := c2) (o := c3) HC.out _).mono ?_; rintro e w2 ⟨rfl, hb2⟩; have hp := PN.out.go _ _ hp hb2; obtain ⟨z1, z2, z3, z4, z5, z6, z7, z8⟩ := PN.out.cells _ hp) | (go_at_call 32; refine (rf_In _ _ _ _).mono ?_; rintro e w3 ⟨rfl, rfl⟩; rw [HI.out]))
            clear x1 h1 z1 z2 z3 z4 z5 z6 z7 z8
            have HP := Lib.hid hp
            clear hp hb1 hb2
            go_loopw [3, 4, 5] (fun i _ _ wr => ∃ k : Nat, k ≤ nn ∧ i = .int .i64 k ∧ Hid (nodesB c0 c1 c2 c3 (xn : Int) ns k = true) ∧ P wr) (fun i _ _ _ => nn - (intOf i).toNat)
            case atStart => exact ⟨0, Nat.zero_le _, rfl, rfl, HP.out⟩
            case round =>
              obtain ⟨k, hk, rfl, HNB, hp⟩ := hrel
              obtain ⟨z1, z2, z3, z4, z5, z6, z7, z8⟩ := PN.out.cells _ hp
              have hlw := PN.out.lt _ hp
              by_cases hlt : k < nn
              · obtain ⟨ts, hts⟩ : ∃ ts, ns[k]? = some ts := ⟨_, List.getElem?_eq_getElem (by rw [HNN.out]; exact hlt)⟩
                obtain ⟨ad, B, bc, rfl, hba, cn, hT⟩ := PN.out.nodes _ hp k ts hts
                have H3t := H3.out ts (List.mem_of_getElem? hts)
                have HSU := Lib.hid (nodesB_succ (c0 := c0) (c1 := c1) (c2 := c2) (c3 := c3) (st := (xn : Int)) hts)
                have HNO := Lib.hid (fun h => nodesB_no (c0 := c0) (c1 := c1) (c2 := c2) (c3 := c3) (st := (xn : Int)) hts h)
                have HPP := Lib.hid hp
                have HT := Lib.hid hT
                have HTS := Lib.hid hts
                have y1 : (0 : Int) ≤ (k : Int) := by omega
                have y2 : (k : Int) < (nn : Int) := by omega
                clear hp hT hts
                by_cases ht64 : ts.length ≤ 64
                · have x1 : decide ((64 : Int) < (ts.length : Int)) = false := by simp; omega
                  go_wp2_with fail
                  clear z1 z2 z3 z4 z5 z6 z7 z8 x1 cn
                  obtain ⟨wo, rfl⟩ : ∃ wo : World, wo = wr := ⟨_, rfl⟩
                  go_loopw [4, 5] (fun i _ wr => ∃ j : Nat, j ≤ ts.length ∧ i = .int .i64 j ∧ Hid ((ts.take j).all (termB c0 c1 c2 c3 ((xn : Int) + k)) = true) ∧ P wr) (fun i _ _ => ts.length - (intOf i).toNat)
                  case atStart => exact ⟨0, Nat.zero_le _, rfl, rfl, HPP.out⟩
                  case round =>
                    obtain ⟨j, hj, rfl, HTB, hp⟩ := hrel
                    obtain ⟨z1, z2, z3, z4, z5, z6, z7, z8⟩ := PN.out.cells _ hp
                    have hlw := PN.out.lt _ hp
                    obtain ⟨_, B', bc', e, hba, cn, hT⟩ := PN.out.nodes _ hp k ts HTS.out
                    injection e with e
                    subst e
                    by_cases hltj : j < ts.length
                    · obtain ⟨tm, htm⟩ : ∃ tm, ts[j]? = some tm := ⟨_, List.getElem?_eq_getElem hltj⟩
                      obtain ⟨a2, rfl, hb2, ct0, ct1, i1, i2⟩ := hT j tm htm
                      have HS2 := Lib.hid (take_succ_all htm (termB c0 c1 c2 c3 ((xn : Int) + k)))
                      have HN2 := Lib.hid (fun h => all_no (p := termB c0 c1 c2 c3 ((xn : Int) + k)) htm h)
                      obtain ⟨f, v⟩ := tm
                      have HTQ := Lib.hid (termB_eq (c0 := c0) (c2 := c2) (c3 := c3) (last := (xn : Int) + k) (f := f) (v := v) HQ.out)
                      have x2 : (0 : Int) ≤ (j : Int) := by omega
                      have x3 : (j : Int) < (ts.length : Int) := by omega
                      have HP2 := Lib.hid hp
                      simp only at ct0 ct1 i1 i2
                      have I1 := Lib.hid i1
                      have I2 := Lib.hid i2
                      clear htm hT hp i1 i2
                      rcases hin : inB f 0 ((xn : Int) + k) with _ | _
                      · have HIN := Lib.hid hin
                        clear hin
                        go_wp2_with (first | (go_at_call 32; refine (rf_In _ _ _ _).mono ?_; rintro e w3 ⟨rfl, rfl⟩; rw [HIN.out]))
                        go_ret
                        exact ⟨ret_bool (netB_nodes (HNO.out (nodeB_terms (HN2.out (by rw [HTQ.out, HIN.out]; rfl))))).symm, PN.out.old _ (PN.out.al _ _ HP2.out)⟩
                      · have HIN := Lib.hid hin
                        clear hin
                        rcases hfi : fitsW c0 c1 c2 c3 v with _ | _
                        · have HFI := Lib.hid hfi
                          have e1 := HE1.out
                          clear hfi
                          rcases hvq : v == Q with _ | _
                          · have HVQ := Lib.hid hvq
                            go_wp2_with (first | (go_at_call 32; refine (rf_In _ _ _ _).mono ?_; rintro e w3 ⟨rfl, rfl⟩; rw [HIN.out]) | (go_at_call 33; refine (rf_Fits _ _ _ _ _ _).mono ?_; rintro e w5 ⟨rfl, hb5⟩; rw [HFI.out]; obtain ⟨t0, t1⟩ := cell_al2 hb5; have hp5 := PN.out.go _ _ (PN.out.al _ _ HP2.out) hb5; obtain ⟨y1, y2, y3, y4, y5, y6, y7, y8⟩ := PN.out.cells _ hp5))
                            go_ret
                            exact ⟨ret_bool (netB_nodes (HNO.out (nodeB_terms (HN2.out (by rw [HTQ.out, HIN.out, HFI.out, HVQ.out]; rfl))))).symm, PN.out.old _ hp5⟩
                          · have HVQ := Lib.hid hvq
                            go_wp2_with (first | (go_at_call 32; refine (rf_In _ _ _ _).mono ?_; rintro e w3 ⟨rfl, rfl⟩; rw [HIN.out]) | (go_at_call 33; refine (rf_Fits _ _ _ _ _ _).mono ?_; rintro e w5 ⟨rfl, hb5⟩; rw [HFI.out]; obtain ⟨t0, t1⟩ := cell_al2 hb5; have hp5 := PN.out.go _ _ (PN.out.al _ _ HP2.out) hb5; obtain ⟨y1, y2, y3, y4, y5, y6, y7, y8⟩ := PN.out.cells _ hp5))
                            go_roundw
                            case rel => exact ⟨j + 1, by omega, by go_num, by show _ = _; rw [HS2.out, HTB.out, HTQ.out, HIN.out, HFI.out, HVQ.out]; rfl, hp5⟩
                            case measure => simp [intOf]; omega
                        · have HFI := Lib.hid hfi
                          clear hfi
                          go_wp2_with (first | (go_at_call 32; refine (rf_In _ _ _ _).mono ?_; rintro e w3 ⟨rfl, rfl⟩; rw [HIN.out]) | (go_at_call 33; refine (rf_Fits _ _ _ _ _ _).mono ?_; rintro e w5 ⟨rfl, hb5⟩; rw [HFI.out]; obtain ⟨t0, t1⟩ := cell_al2 hb5; have hp5 := PN.out.go _ _ (PN.out.al _ _ HP2.out) hb5; obtain ⟨y1, y2, y3, y4, y5, y6, y7, y8⟩ := PN.out.cells _ hp5))
                          go_roundw
                          case rel => exact ⟨j + 1, by omega, by go_num, by show _ = _; rw [HS2.out, HTB.out, HTQ.out, HIN.out, HFI.out]; rfl, hp5⟩
                          case measure => simp [intOf]; omega
                    · obtain rfl : j = ts.length := by omega
                      have HP2 := Lib.hid hp
                      clear hT hp
                      go_wp2
                      go_roundw
                      case rel => exact ⟨k + 1, by omega, by go_num, by show _ = _; rw [HSU.out, HNB.out]; unfold nodeB; rw [decide_eq_true ht64]; have := HTB.out; rw [List.take_length] at this; rw [this]; rfl, HP2.out⟩
                      case measure => simp [intOf]; omega
                · have x1 : decide ((64 : Int) < (ts.length : Int)) = true := by simp; omega
                  have HL := Lib.hid ht64
                  clear ht64
                  go_wp2
                  go_ret
                  exact ⟨ret_bool (netB_nodes (HNO.out (nodeB_long HL.out))).symm, PN.out.old _ HPP.out⟩
              · obtain rfl : k = nn := by omega
                have HPP := Lib.hid hp
                clear hp
                go_wp2_with fail
                clear z1 z2 z3 z4 z5 z6 z7 z8
                obtain ⟨wo, rfl⟩ : ∃ wo : World, wo = wr := ⟨_, rfl⟩
                go_loopw [7] (fun i wr => ∃ j : Nat, j ≤ xn ∧ i = .int .i64 j ∧ Hid (((nx.take j).all fun v => inB v 0 ((xn : Int) + k)) = true) ∧ P wr) (fun i _ => xn - (intOf i).toNat)
                case atStart => exact ⟨0, Nat.zero_le _, rfl, rfl, HPP.out⟩
                case round =>
                  obtain ⟨j, hj, rfl, HTB, hp⟩ := hrel
                  obtain ⟨z1, z2, z3, z4, z5, z6, z7, z8⟩ := PN.out.cells _ hp
                  have hlw := PN.out.lt _ hp
                  by_cases hltj : j < xn
                  · obtain ⟨ad, v, rfl, hba, hv, cv, v1, v2⟩ := (PN.out.next _ hp).at_ (k := j) (by rw [HXN.out]; exact hltj)
                    have HS2 := Lib.hid (take_succ_all hv (fun v => inB v 0 ((xn : Int) + k)))
                    have HN2 := Lib.hid (fun h => all_no (p := fun v => inB v 0 ((xn : Int) + k)) hv h)
                    have HP2 := Lib.hid hp
                    have x2 : (0 : Int) ≤ (j : Int) := by omega
                    have x3 : (j : Int) < (xn : Int) := by omega
                    clear hp hv
                    rcases hin : inB v 0 ((xn : Int) + k) with _ | _
                    · have HIN := Lib.hid hin
                      clear hin
                      go_wp2_with (first | (go_at_call 32; refine (rf_In _ _ _ _).mono ?_; rintro e w3 ⟨rfl, rfl⟩; rw [HIN.out]))
                      go_ret
                      exact ⟨ret_bool (netB_next (by rw [HNN.out]; exact HN2.out HIN.out)).symm, PN.out.old _ HP2.out⟩
                    · have HIN := Lib.hid hin
                      clear hin
                      go_wp2_with (first | (go_at_call 32; refine (rf_In _ _ _ _).mono ?_; rintro e w3 ⟨rfl, rfl⟩; rw [HIN.out]))
                      go_roundw
                      case rel => exact ⟨j + 1, by omega, by go_num, by show _ = _; rw [HS2.out, HTB.out, HIN.out]; rfl, HP2.out⟩
                      case measure => simp [intOf]; omega
                  · obtain rfl : j = xn := by omega
                    have HP2 := Lib.hid hp
                    have HNE := Lib.hid (netB_end (out := out) HNH.out (by rw [HNN.out]; exact HNB.out) (by rw [HNN.out]; have := HTB.out; rw [← HXN.out, List.take_length] at this; rw [← HXN.out]; exact this))
                    clear hp
                    go_wp2_with (first | (go_at_call 32; refine (rf_In _ _ _ _).mono ?_; rintro e w3 ⟨rfl, rfl⟩))
                    go_ret
                    exact ⟨ret_bool (by rw [HNE.out, HNN.out]), PN.out.old _ HP2.out⟩
          · have x2 : ((xn : Int) == st) = false := by simpa using hxs
            have HF := Lib.hid (netB_head (out := out) (ns := ns) (nx := nx) (show netHeadB d0 d1 d2 d3 c0 c1 c2 c3 st ns.length nx.length = false by unfold netHeadB; rw [HD.out, HC.out, HI.out, HNN.out, HXN.out, x2, Bool.and_false]; rfl))
            go_enter Tryd.func9, Tryd.ntmps9
            go_wp2_with (first | (go_at_call 31; with_reducible refine (rf_Valid_is (b := d0) (f := d1) (r := d2) (o := d3) HD.out _).mono ?_; rintro e w1 ⟨rfl, hb1⟩; have hb := below_net hb1; obtain ⟨z1, z2, z3, z4, z5, z6, z7, z8⟩ := BX.out _ hb) | (go_at_call 31; with_reducible refine (rf_Valid_is (b := c0) (f := c1) (r := c2) (o := c3) HC.out _).mono ?_; rintro e w2 ⟨rfl, hb1⟩; have hb := below_net3 hb hb1; obtain ⟨z1, z2, z3, z4, z5, z6, z7, z8⟩ := BX.out _ hb) | (go_at_call 32; refine (rf_In _ _ _ _).mono ?_; rintro e w3 ⟨rfl, rfl⟩; rw [HI.out]))
            go_ret
            exact ⟨ret_bool HF.out.symm, below_net2 hb⟩
        · have x1 : decide ((64 : Int) < (nn : Int)) = true := by simp; omega
          have HF := Lib.hid (netB_head (out := out) (ns := ns) (nx := nx) (show netHeadB d0 d1 d2 d3 c0 c1 c2 c3 st ns.length nx.length = false by unfold netHeadB; rw [HD.out, HC.out, HI.out, HNN.out, decide_eq_false hn64]; rfl))
          go_enter Tryd.func9, Tryd.ntmps9
          go_wp2_with (first | (go_at_call 31; with_reducible refine (rf_Valid_is (b := d0) (f := d1) (r := d2) (o := d3) HD.out _).mono ?_; rintro e w1 ⟨rfl, hb1⟩; have hb := below_net hb1; obtain ⟨z1, z2, z3, z4, z5, z6, z7, z8⟩ := BX.out _ hb) | (go_at_call 31; with_reducible refine (rf_Valid_is (b := c0) (f := c1) (r := c2) (o := c3) HC.out _).mono ?_; rintro e w2 ⟨rfl, hb1⟩; have hb := below_net3 hb hb1; obtain ⟨z1, z2, z3, z4, z5, z6, z7, z8⟩ := BX.out _ hb) | (go_at_call 32; refine (rf_In _ _ _ _).mono ?_; rintro e w3 ⟨rfl, rfl⟩; rw [HI.out]))
          go_ret
          exact ⟨ret_bool HF.out.symm, below_net2 hb⟩
end Go.Proofs.YtdiflpbioohddaaDoor
