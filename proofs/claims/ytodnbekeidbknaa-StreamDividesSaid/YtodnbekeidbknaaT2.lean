/- Networks as arguments, with all cells; the walks of follow, wrong and compute of package network. -/
import Derived.Test.YtodnbekeidbknaaT1
import Derived.Test.YtodnbekeidbknaaG10
import Derived.Test.YtodnbekeidbknaaPr
import Derived.Test.YtodnbekeidbknaaU
set_option linter.unusedVariables false
set_option linter.unusedSimpArgs false
namespace Go.Proofs.Ytodnbekeidbknaa
open Go.RowKit

/-- make([]int, 0, n). -/
theorem mk_int0 {ops : Array Oper} {rest : List Oper} {o : Oper} {a : Act} {Q : Exit → Act → World → Prop} {w : World} (hg : o.guard = none) (s c : Operand) (hop : o.op = Op.makeSlice 23 s c)
    (base n : Nat) {N : Int} (hs : a.eval s = .int .i64 0) (hc : a.eval c = .int .i64 N) (hN : N = (n : Int)) (hn : n ≤ 100000000) (hb : base ≤ w.heap.size)
    (h : ∀ w', Own base w' (.slice (some ⟨w.heap.size, 0, none⟩) 0 n) [] → Below w.heap.size w w' → wpList Try.prog ops Q rest (a.put o.dst (.slice (some ⟨w.heap.size, 0, none⟩) 0 n)) w') :
    wpList Try.prog ops Q (o :: rest) a w := by
  subst hN
  obtain ⟨i0, hi, hz0, hz1, hz2⟩ := info_parts info_int
  refine wpList_make_own w hg s c 23 hop base 3 i0 (.int .i64 0) 1 Try.underlying23 hi hz0 hz1 .i64 .i64 n n hs hc rfl (by rw [hz2]; omega) (by unfold maxLen; omega) hb fun w' h1 h2 => h w' ⟨h1, by simp⟩ ((Below.refl _ _).grown h2 (Nat.le_refl _) (by intro k hk; cases hk))
theorem own_below {a w w' : World} {b : Nat} {v : Value} (h : Below b a w) (hb : b ≤ w.heap.size) (hv : ∀ k, v.ownBlock = some k → b ≤ k) (hg : w.grownBy w' v.ownBlock) : Below b a w' := h.grown hg hb hv
theorem Own.ge {base : Nat} {w : World} {v : Value} {l : List Int} (h : Own base w v l) : ∀ k, v.ownBlock = some k → base ≤ k := fun k hk => (h.1.lt k hk).1
theorem Own.single {w : World} {x : Int} (hx : I64 x) : Own w.heap.size (w.alloc (.cells #[.int .i64 x] 3)) (.slice (some ⟨w.heap.size, 0, none⟩) 1 1) [x] := by
  refine ⟨?_, by simpa using hx⟩
  exact World.ownsRow_lit w #[.int .i64 x] 1 (Nat.le_refl _) (by unfold maxLen; omega) (by simp)
/-- append(v, s...) with a name for the length. -/
theorem app_intsN {ops : Array Oper} {rest : List Oper} {o : Oper} {a : Act} {Q : Exit → Act → World → Prop} (w : World) (hg : o.guard = none) (s x : Operand) (ho : o.op = .call { callee := .builtin .append, args := #[s, x], argTypes := #[23, 23] })
    (base : Nat) {v : Value} {l m : List Int} {A : Option Addr} {c n : Nat} (hs : a.eval s = v) (hx : a.eval x = .slice A n c) (hm : m.length = n) (hown : Own base w v l) (hI : Ints w A m) (hn : l.length + n ≤ 100000000) (hbase : base ≤ w.heap.size)
    (h : ∀ v' w', Own base w' v' (l ++ m) → Below base w w' → wpList Try.prog ops Q rest (a.put o.dst v') w') : wpList Try.prog ops Q (o :: rest) a w := by
  subst hm
  exact app_ints w hg s x ho base hs hx hown hI hn hbase fun v' w' h1 h2 _ => h v' w' h1 (own_below (Below.refl _ _) hbase hown.ge h2)
/-- What holds of all worlds that grew out of the one where a call laid a network as its argument: above block w.heap.size anything may change. -/
structure NetQ (w : World) (P : World → Prop) (d0 d1 d2 d3 c0 c1 c2 c3 st : Int) (NA : Option Addr) (ns : List (List (Int × Int))) (nn nc : Nat) (XA : Option Addr) (nx : List Int) (xn xc : Nat) (out : Int) : Prop where
  go : ∀ w1 w2, P w1 → Below (w.heap.size + 1) w1 w2 → P w2
  old : ∀ w1, P w1 → Below w.heap.size w w1
  dat : ∀ w1, P w1 → w1.cell? ⟨w.heap.size, 0, none⟩ = some (.int .i64 d0) ∧ w1.cell? ⟨w.heap.size, 1, none⟩ = some (.int .i64 d1) ∧ w1.cell? ⟨w.heap.size, 2, none⟩ = some (.int .i64 d2) ∧ w1.cell? ⟨w.heap.size, 3, none⟩ = some (.int .i64 d3)
  coe : ∀ w1, P w1 → w1.cell? ⟨w.heap.size, 4, none⟩ = some (.int .i64 c0) ∧ w1.cell? ⟨w.heap.size, 5, none⟩ = some (.int .i64 c1) ∧ w1.cell? ⟨w.heap.size, 6, none⟩ = some (.int .i64 c2) ∧ w1.cell? ⟨w.heap.size, 7, none⟩ = some (.int .i64 c3)
  res : ∀ w1, P w1 → w1.cell? ⟨w.heap.size, 8, none⟩ = some (.int .i64 st) ∧ w1.cell? ⟨w.heap.size, 9, none⟩ = some (.slice NA nn nc) ∧ w1.cell? ⟨w.heap.size, 10, none⟩ = some (.slice XA xn xc) ∧ w1.cell? ⟨w.heap.size, 11, none⟩ = some (.int .i64 out)
  nodes : ∀ w1, P w1 → NodesAt w1 NA ns
  next : ∀ w1, P w1 → Ints w1 XA nx
  lt : ∀ w1, P w1 → w.heap.size + 1 ≤ w1.heap.size
theorem NetQ.go1 {w : World} {P : World → Prop} {d0 d1 d2 d3 c0 c1 c2 c3 st : Int} {NA : Option Addr} {ns : List (List (Int × Int))} {nn nc : Nat} {XA : Option Addr} {nx : List Int} {xn xc : Nat} {out : Int} (h : NetQ w P d0 d1 d2 d3 c0 c1 c2 c3 st NA ns nn nc XA nx xn xc out) {w1 w2 : World} (h1 : P w1) (h2 : Below w1.heap.size w1 w2) : P w2 := h.go w1 w2 h1 (h2.mono (h.lt w1 h1))
theorem NetQ.al {w : World} {P : World → Prop} {d0 d1 d2 d3 c0 c1 c2 c3 st : Int} {NA : Option Addr} {ns : List (List (Int × Int))} {nn nc : Nat} {XA : Option Addr} {nx : List Int} {xn xc : Nat} {out : Int} (h : NetQ w P d0 d1 d2 d3 c0 c1 c2 c3 st NA ns nn nc XA nx xn xc out) {w1 : World} (h1 : P w1) (o : Obj) : P (w1.alloc o) := h.go1 h1 ((Below.refl _ _).alloc (Nat.le_refl _) o)
theorem netQ_mk (w : World) (d0 d1 d2 d3 c0 c1 c2 c3 st : Int) (NA : Option Addr) (ns : List (List (Int × Int))) (nn nc : Nat) (XA : Option Addr) (nx : List Int) (xn xc : Nat) (out : Int) (hN : NodesAt w NA ns) (hX : Ints w XA nx) :
    ∃ P : World → Prop, P (w.alloc (.cells #[.int .i64 d0, .int .i64 d1, .int .i64 d2, .int .i64 d3, .int .i64 c0, .int .i64 c1, .int .i64 c2, .int .i64 c3, .int .i64 st, .slice NA nn nc, .slice XA xn xc, .int .i64 out] 31)) ∧ NetQ w P d0 d1 d2 d3 c0 c1 c2 c3 st NA ns nn nc XA nx xn xc out := by
  refine ⟨Below (w.heap.size + 1) (w.alloc (.cells #[.int .i64 d0, .int .i64 d1, .int .i64 d2, .int .i64 d3, .int .i64 c0, .int .i64 c1, .int .i64 c2, .int .i64 c3, .int .i64 st, .slice NA nn nc, .slice XA xn xc, .int .i64 out] 31)), Below.refl _ _, ?_⟩
  have a : ∀ (k : Nat) {w'} (h : Below (w.heap.size + 1) (w.alloc (.cells #[.int .i64 d0, .int .i64 d1, .int .i64 d2, .int .i64 d3, .int .i64 c0, .int .i64 c1, .int .i64 c2, .int .i64 c3, .int .i64 st, .slice NA nn nc, .slice XA xn xc, .int .i64 out] 31)) w'),
      w'.cell? ⟨w.heap.size, k, none⟩ = (w.alloc (.cells #[.int .i64 d0, .int .i64 d1, .int .i64 d2, .int .i64 d3, .int .i64 c0, .int .i64 c1, .int .i64 c2, .int .i64 c3, .int .i64 st, .slice NA nn nc, .slice XA xn xc, .int .i64 out] 31)).cell? ⟨w.heap.size, k, none⟩ := fun k w' h => h.cell (Nat.lt_succ_self _)
  exact ⟨fun w1 w2 h1 h2 => h1.trans h2, fun w1 h1 => below_net2 h1,
    fun w' h => ⟨(a 0 h).trans (by simp [go_sem]), (a 1 h).trans (by simp [go_sem]), (a 2 h).trans (by simp [go_sem]), (a 3 h).trans (by simp [go_sem])⟩,
    fun w' h => ⟨(a 4 h).trans (by simp [go_sem]), (a 5 h).trans (by simp [go_sem]), (a 6 h).trans (by simp [go_sem]), (a 7 h).trans (by simp [go_sem])⟩,
    fun w' h => ⟨(a 8 h).trans (by simp [go_sem]), (a 9 h).trans (by simp [go_sem]), (a 10 h).trans (by simp [go_sem]), (a 11 h).trans (by simp [go_sem])⟩,
    fun w1 h1 => hN.grow (below_net2 h1), fun w1 h1 => hX.grow (below_net2 h1), fun w1 h1 => by have := h1.size; simp at this; omega⟩
/-- The parts of a valid network. -/
theorem netB_parts {d0 d1 d2 d3 c0 c1 c2 c3 st out : Int} {ns : List (List (Int × Int))} {nx : List Int} (h : netB d0 d1 d2 d3 c0 c1 c2 c3 st ns nx out = true) :
    okW d0 d1 d2 d3 = true ∧ okW c0 c1 c2 c3 = true ∧ (0 ≤ st ∧ st ≤ 64) ∧ ns.length ≤ 64 ∧ st = (nx.length : Int) ∧ (∀ (k : Nat) ts, ns[k]? = some ts → ts.length ≤ 64 ∧ ∀ t ∈ ts, (0 ≤ t.1 ∧ t.1 ≤ st + k) ∧ -8388608 ≤ t.2 ∧ t.2 ≤ 8388608) ∧
    (∀ v ∈ nx, 0 ≤ v ∧ v ≤ st + ns.length) ∧ 0 ≤ out ∧ out ≤ st + ns.length := by
  unfold netB netHeadB at h
  simp only [Bool.and_eq_true, decide_eq_true_eq, beq_iff_eq] at h
  obtain ⟨⟨h1, h2, h3, h4, h5⟩, h6, h7, h8⟩ := h
  refine ⟨h1, h2, inB_iff.1 h3, h4, h5.symm, fun k ts hk => ?_, fun v hv => inB_iff.1 (List.all_eq_true.1 h7 v hv), inB_iff.1 h8⟩
  have hk' := (List.getElem?_eq_some_iff.1 hk).1
  unfold nodesB at h6
  have := List.all_eq_true.1 h6 k (List.mem_range.2 hk')
  rw [hk] at this
  simp only [nodeB, Bool.and_eq_true, decide_eq_true_eq] at this
  exact ⟨this.1, fun t ht => term_23 h2 (List.all_eq_true.1 this.2 t ht)⟩
/-- next[i] = values[k]. -/
theorem foS_set {nx vs : List Int} {S k : Nat} {y : Int} (hk : nx[k]? = some y) (h : k < S) (hl : nx.length = S) :
    ((nx.take k).map (atF vs) ++ List.replicate (S - k) 0).set k (atF vs y) = (nx.take (k + 1)).map (atF vs) ++ List.replicate (S - (k + 1)) 0 := by
  have hl2 : ((nx.take k).map (atF vs)).length = k := by simp; omega
  rw [List.set_append_right _ _ (by omega), hl2, Nat.sub_self, take_snoc' hk, List.map_append, List.append_assoc]
  congr 1
  rw [show S - k = (S - (k + 1)) + 1 by omega, List.replicate_succ, List.set_cons_zero]
  rfl
set_option maxHeartbeats 1000000 in
theorem nw_follow (d0 d1 d2 d3 c0 c1 c2 c3 st out : Int) (NA XA VA : Option Addr) (nc xc vn vc : Nat) (ns : List (List (Int × Int))) (nx vs : List Int) (w : World) (hN : NodesAt w NA ns) (hX : Ints w XA nx) (hV : Ints w VA vs) (hvn : vs.length = vn) (hv9 : vn ≤ 1000000)
    (hst : st = (nx.length : Int)) (h64 : nx.length ≤ 64) (hin : ∀ v ∈ nx, 0 ≤ v ∧ v < (vn : Int)) :
    Calls Try.prog 42 #[netV d0 d1 d2 d3 c0 c1 c2 c3 st NA ns.length nc XA nx.length xc out, .slice VA vn vc] w (RetInts1 w (followF nx vs)) := by
  subst hst
  obtain ⟨xn, hxn⟩ : ∃ n, nx.length = n := ⟨_, rfl⟩
  have HXN := Lib.hid hxn
  obtain ⟨P, HP0, PN0⟩ := netQ_mk w d0 d1 d2 d3 c0 c1 c2 c3 (nx.length : Int) NA ns ns.length nc XA nx nx.length xc out hN hX
  rw [hxn] at HP0 PN0 h64
  obtain ⟨nn, hnn⟩ : ∃ n, ns.length = n := ⟨_, rfl⟩
  rw [hnn] at HP0 PN0
  unfold netV
  rw [hnn, hxn]
  have HP := Lib.hid HP0
  have PN := Lib.hid PN0
  have HIN := Lib.hid hin
  have HV := Lib.hid hV
  have HVN := Lib.hid hvn
  clear HP0 PN0 hnn hxn hN hX hin hV hvn
  go_enter Try.func42, Try.ntmps42
  go_wp2_with (first | (at_make; refine mk_int rfl _ _ rfl (w.heap.size + 1) xn rfl rfl rfl (by omega) (by simp) ?_; intro w1 hown1 hb1; have hp1 := PN.out.go1 HP.out hb1; obtain ⟨z1, z2, z3, z4⟩ := PN.out.res _ hp1))
  have hg : w.heap.size + 1 < w1.heap.size := by have := hown1.block; simp at this; omega
  have HO : Hid (Own (w.heap.size + 1) w1 (.slice (some ⟨w.heap.size + 1, 0, none⟩) xn xn) ((nx.take 0).map (atF vs) ++ List.replicate (xn - 0) 0)) := Lib.hid (by simpa using hown1)
  have HP1 := Lib.hid hp1
  clear hp1 hown1 hb1 z1 z2 z3 z4
  go_loopw [14] (fun i wr => ∃ k : Nat, k ≤ xn ∧ i = .int .i64 k ∧ Hid (Own (w.heap.size + 1) wr (.slice (some ⟨w.heap.size + 1, 0, none⟩) xn xn) ((nx.take k).map (atF vs) ++ List.replicate (xn - k) 0)) ∧ P wr) (fun i _ => xn - (intOf i).toNat)
  case atStart => exact ⟨0, Nat.zero_le _, rfl, HO, HP1.out⟩
  case round =>
    obtain ⟨k, hk, rfl, HO, hp⟩ := hrel
    by_cases hlt : k < xn
    · obtain ⟨ad, y, rfl, hba, hy, hcy, y1, y2⟩ := (PN.out.next _ hp).at_ (k := k) (by rw [HXN.out]; exact hlt)
      obtain ⟨v1, v2⟩ := HIN.out y (List.mem_of_getElem? hy)
      obtain ⟨j, rfl⟩ : ∃ j : Nat, y = (j : Int) := ⟨y.toNat, by omega⟩
      obtain ⟨av, z, rfl, hbv, hz, hcz, z1, z2⟩ := (HV.out.grow (PN.out.old _ hp)).at_ (k := j) (by rw [HVN.out]; omega)
      have HS := Lib.hid (foS_set (vs := vs) hy hlt HXN.out)
      rw [atF_nat hz] at HS
      have hfr := HO.out.free k
      have hnw : ((nx.take k).map (atF vs) ++ List.replicate (xn - k) 0)[k]? = some 0 := by
        have hl0 : ((nx.take k).map (atF vs)).length = k := by simp [HXN.out]; omega
        rw [List.getElem?_append_right (by omega), hl0, Nat.sub_self, List.getElem?_replicate, if_pos (by omega)]
      have hcn := HO.out.cell hnw
      have hset := HO.out.set k (y := z) ⟨z1, z2⟩
      have hbs := HO.out.block
      have hp2 : P (wr.setCell ⟨w.heap.size + 1, k, none⟩ (.int .i64 z)) := PN.out.go _ _ hp (below_set (Below.refl _ _) (Nat.le_refl _))
      have HP2 := Lib.hid hp2
      have HSET := Lib.hid hset
      have x1 : (0 : Int) ≤ (k : Int) := by omega
      have x2 : (k : Int) < (xn : Int) := by omega
      clear hp hp2 hset hy hz hnw
      go_wp2_with fail
      go_roundw
      case rel => exact ⟨k + 1, by omega, by go_num, by rw [← HS.out]; exact HSET.out, HP2.out⟩
      case measure => simp [intOf]; omega
    · obtain rfl : k = xn := by omega
      have HPP := Lib.hid hp
      clear hp
      go_wp2_with fail
      go_ret
      refine ⟨_, rfl, ?_, PN.out.old _ HPP.out⟩
      have := HO.out
      rw [← HXN.out, List.take_length, Nat.sub_self, List.replicate_zero, List.append_nil] at this
      have hb := this.base (Nat.le_succ _)
      rw [HXN.out] at hb
      exact hb
end Go.Proofs.Ytodnbekeidbknaa
