/- Several texts in one: T1 T2 T3 T4 T5 T6. -/
import Derived.Test.YtgabfdappeakiaaPt
import Derived.Test.YtgabfdappeakiaaG10
import Derived.Test.YtgabfdappeakiaaPr
import Derived.Test.YtgabfdappeakiaaU
import Derived.Test.YtgabfdappeakiaaPu
import Derived.Test.YtgabfdappeakiaaPs
section
/- Plain: the values of a network for a state and an input, and a step. -/
set_option linter.unusedVariables false
set_option linter.unusedSimpArgs false
namespace Go.Proofs.Ytgabfdappeakiaa
open Go.RowKit

/-- The sum of the first i products of a node. -/
def sumT (ts : List (Int × Int)) (vs : List Int) : Nat → Int
  | 0 => 0
  | i + 1 => sumT ts vs i + (match ts[i]? with | some t => t.2 * atF vs t.1 | none => 0)
/-- What a node has before it is reduced. -/
def nodeV (d2 c1 : Int) (vs : List Int) (ts : List (Int × Int)) : Int := shiftF (sumT ts vs ts.length) c1 d2
/-- The input, the states and the first k nodes' values. -/
def valsF (d0 d1 d2 d3 c1 : Int) (ns : List (List (Int × Int))) (x : List Int) : Nat → List Int
  | 0 => x
  | k + 1 => valsF d0 d1 d2 d3 c1 ns x k ++ (match ns[k]? with | some ts => [reduceW d0 d1 d2 d3 (nodeV d2 c1 (valsF d0 d1 d2 d3 c1 ns x k) ts)] | none => [])
/-- One of the first k nodes overflows. -/
def overF (d0 d1 d2 d3 c1 : Int) (ns : List (List (Int × Int))) (x : List Int) : Nat → Bool
  | 0 => false
  | k + 1 => overF d0 d1 d2 d3 c1 ns x k || (match ns[k]? with | some ts => !fitsW d0 d1 d2 d3 (nodeV d2 c1 (valsF d0 d1 d2 d3 c1 ns x k) ts) | none => false)
theorem valsF_succ {d0 d1 d2 d3 c1 : Int} {ns : List (List (Int × Int))} {x : List Int} {k : Nat} {ts : List (Int × Int)} (h : ns[k]? = some ts) :
    valsF d0 d1 d2 d3 c1 ns x (k + 1) = valsF d0 d1 d2 d3 c1 ns x k ++ [reduceW d0 d1 d2 d3 (nodeV d2 c1 (valsF d0 d1 d2 d3 c1 ns x k) ts)] := by
  show valsF d0 d1 d2 d3 c1 ns x k ++ _ = _
  rw [h]
theorem overF_succ {d0 d1 d2 d3 c1 : Int} {ns : List (List (Int × Int))} {x : List Int} {k : Nat} {ts : List (Int × Int)} (h : ns[k]? = some ts) :
    overF d0 d1 d2 d3 c1 ns x (k + 1) = (overF d0 d1 d2 d3 c1 ns x k || !fitsW d0 d1 d2 d3 (nodeV d2 c1 (valsF d0 d1 d2 d3 c1 ns x k) ts)) := by
  show (overF d0 d1 d2 d3 c1 ns x k || _) = _
  rw [h]
theorem valsF_length (d0 d1 d2 d3 c1 : Int) (ns : List (List (Int × Int))) (x : List Int) : ∀ k, k ≤ ns.length → (valsF d0 d1 d2 d3 c1 ns x k).length = x.length + k
  | 0, _ => rfl
  | k + 1, h => by
    obtain ⟨ts, hts⟩ : ∃ ts, ns[k]? = some ts := ⟨_, List.getElem?_eq_getElem (by omega)⟩
    rw [valsF_succ hts, List.length_append, valsF_length d0 d1 d2 d3 c1 ns x k (by omega)]
    simp
    omega
theorem valsF_fits {d0 d1 d2 d3 c1 : Int} {ns : List (List (Int × Int))} {x : List Int} (hd : okW d0 d1 d2 d3 = true) (hx : ∀ v ∈ x, fitsW d0 d1 d2 d3 v = true) : ∀ k, ∀ v ∈ valsF d0 d1 d2 d3 c1 ns x k, fitsW d0 d1 d2 d3 v = true
  | 0 => hx
  | k + 1 => fun v hv => by
    change v ∈ valsF d0 d1 d2 d3 c1 ns x k ++ (match ns[k]? with | some ts => [reduceW d0 d1 d2 d3 (nodeV d2 c1 (valsF d0 d1 d2 d3 c1 ns x k) ts)] | none => []) at hv
    rcases List.mem_append.1 hv with h | h
    · exact valsF_fits hd hx k v h
    · split at h
      · rw [List.mem_singleton] at h; subst h; exact fits_reduce hd _
      · cases h
/-- The next state. -/
def followF (nx vs : List Int) : List Int := nx.map (atF vs)
theorem pow_23 {b : Int} (h1 : 4 ≤ b) (h2 : b ≤ 24) : (2 : Int) ^ (b - 1).toNat ≤ 8388608 := by
  have : (2 : Int) ^ (b - 1).toNat ≤ 2 ^ 23 := pow_le (by omega)
  simpa using this
theorem fits_23 {b f r o v : Int} (h : fitsW b f r o v = true) : -8388608 ≤ v ∧ v ≤ 8388608 := by
  obtain ⟨hc, h1, h2⟩ := fits_iff.1 h
  obtain ⟨a1, a2, _⟩ := okW_iff.1 hc
  have hp := pow_23 a1 a2
  unfold lowW at h1
  unfold highW at h2
  rw [if_pos hc] at h1 h2
  omega
theorem term_23 {c0 c1 c2 c3 last : Int} {t : Int × Int} (hc : okW c0 c1 c2 c3 = true) (h : termB c0 c1 c2 c3 last t = true) : (0 ≤ t.1 ∧ t.1 ≤ last) ∧ -8388608 ≤ t.2 ∧ t.2 ≤ 8388608 := by
  unfold termB at h
  simp only [Bool.and_eq_true, Bool.or_eq_true, beq_iff_eq] at h
  refine ⟨inB_iff.1 h.1, ?_⟩
  rcases h.2 with h | h
  · exact fits_23 h
  · obtain ⟨a1, a2, a3, a4, _⟩ := okW_iff.1 hc
    have := pow_23 a1 a2
    have h3 : (2 : Int) ^ c1.toNat ≤ 2 ^ (c0 - 1).toNat := pow_le (by omega)
    have h4 : 0 < (2 : Int) ^ c1.toNat := pow_pos' _
    omega
theorem prod_46 {a b : Int} (ha : -8388608 ≤ a ∧ a ≤ 8388608) (hb : -8388608 ≤ b ∧ b ≤ 8388608) : -70368744177664 ≤ a * b ∧ a * b ≤ 70368744177664 := by
  have h : (a * b).natAbs ≤ 8388608 * 8388608 := by
    rw [Int.natAbs_mul]
    exact Nat.mul_le_mul (by omega) (by omega)
  omega
theorem atF_23 {vs : List Int} (hv : ∀ v ∈ vs, -8388608 ≤ v ∧ v ≤ 8388608) (i : Int) : -8388608 ≤ atF vs i ∧ atF vs i ≤ 8388608 := by
  unfold atF
  split
  · cases h : vs[i.toNat]? with
    | none => simp
    | some v => exact hv v (List.mem_of_getElem? h)
  · simp
theorem sumT_bound {ts : List (Int × Int)} {vs : List Int} (ht : ∀ t ∈ ts, -8388608 ≤ t.2 ∧ t.2 ≤ 8388608) (hv : ∀ v ∈ vs, -8388608 ≤ v ∧ v ≤ 8388608) : ∀ i : Nat, -(70368744177664 * (i : Int)) ≤ sumT ts vs i ∧ sumT ts vs i ≤ 70368744177664 * (i : Int)
  | 0 => by simp [sumT]
  | i + 1 => by
    have ih := sumT_bound ht hv i
    show -(70368744177664 * ((i + 1 : Nat) : Int)) ≤ sumT ts vs i + _ ∧ sumT ts vs i + _ ≤ _
    cases h : ts[i]? with
    | none => simp only []; omega
    | some t =>
      have := prod_46 (ht t (List.mem_of_getElem? h)) (atF_23 hv t.1)
      simp only []
      omega
end Go.Proofs.Ytgabfdappeakiaa
end
section
/- Networks as arguments, with all cells; the walks of follow, wrong and compute of package network. -/
set_option linter.unusedVariables false
set_option linter.unusedSimpArgs false
namespace Go.Proofs.Ytgabfdappeakiaa
open Go.RowKit

/-- make([]int, 0, n). -/
theorem mk_int0 {ops : Array Oper} {rest : List Oper} {o : Oper} {a : Act} {Q : Exit → Act → World → Prop} {w : World} (hg : o.guard = none) (s c : Operand) (hop : o.op = Op.makeSlice 23 s c)
    (base n : Nat) {N : Int} (hs : a.eval s = .int .i64 0) (hc : a.eval c = .int .i64 N) (hN : N = (n : Int)) (hn : n ≤ 100000000) (hb : base ≤ w.heap.size)
    (h : ∀ w', Own base w' (.slice (some ⟨w.heap.size, 0, none⟩) 0 n) [] → Below w.heap.size w w' → wpList Try.prog ops Q rest (a.put o.dst (.slice (some ⟨w.heap.size, 0, none⟩) 0 n)) w') :
    wpList Try.prog ops Q (o :: rest) a w := by
  subst hN
  obtain ⟨i0, hi, hz0, hz1, hz2⟩ := info_parts info_int
  refine wpList_make_own w hg s c 23 hop base 3 i0 (.int .i64 0) 1 Try.underlying23 hi hz0 hz1 .i64 .i64 n n hs hc rfl (by rw [hz2]; omega) (by unfold maxLen; omega) hb fun w' h1 h2 => h w' ⟨h1, by simp⟩ ((Below.refl _ _).grown h2 (Nat.le_refl _) (by intro k hk; cases hk))
theorem own_below {a w w' : World} {b : Nat} {v : Value} (h : Below b a w) (hb : b ≤ w.heap.size) (hv : ∀ k, v.ownBlock = some k → b ≤ k) (hg : w.grownBy w' v.ownBlock) : Below b a w' := h.grown hg hb hv
theorem Own.ge {base : Nat} {w : World} {v : Value} {l : List Int} (h : Own base w v l) : ∀ k, v.ownBlock = some k → base ≤ k := fun k hk => (h.1.lt k hk).1
theorem Own.single {w : World} {x : Int} (hx : I64 x) : Own w.heap.size (w.alloc (.cells #[.int .i64 x] 3)) (.slice (some ⟨w.heap.size, 0, none⟩) 1 1) [x] := by
  refine ⟨?_, by simpa using hx⟩
  exact World.ownsRow_lit w #[.int .i64 x] 1 (Nat.le_refl _) (by unfold maxLen; omega) (by simp)
/-- append(v, s...) with a name for the length. -/
theorem app_intsN {ops : Array Oper} {rest : List Oper} {o : Oper} {a : Act} {Q : Exit → Act → World → Prop} (w : World) (hg : o.guard = none) (s x : Operand) (ho : o.op = .call { callee := .builtin .append, args := #[s, x], argTypes := #[23, 23] })
    (base : Nat) {v : Value} {l m : List Int} {A : Option Addr} {c n : Nat} (hs : a.eval s = v) (hx : a.eval x = .slice A n c) (hm : m.length = n) (hown : Own base w v l) (hI : Ints w A m) (hn : l.length + n ≤ 100000000) (hbase : base ≤ w.heap.size)
    (h : ∀ v' w', Own base w' v' (l ++ m) → Below base w w' → wpList Try.prog ops Q rest (a.put o.dst v') w') : wpList Try.prog ops Q (o :: rest) a w := by
  subst hm
  exact app_ints w hg s x ho base hs hx hown hI hn hbase fun v' w' h1 h2 _ => h v' w' h1 (own_below (Below.refl _ _) hbase hown.ge h2)
/-- What holds of all worlds that grew out of the one where a call laid a network as its argument: above block w.heap.size anything may change. -/
structure NetQ (w : World) (P : World → Prop) (d0 d1 d2 d3 c0 c1 c2 c3 st : Int) (NA : Option Addr) (ns : List (List (Int × Int))) (nn nc : Nat) (XA : Option Addr) (nx : List Int) (xn xc : Nat) (out : Int) : Prop where
  go : ∀ w1 w2, P w1 → Below (w.heap.size + 1) w1 w2 → P w2
  old : ∀ w1, P w1 → Below w.heap.size w w1
  dat : ∀ w1, P w1 → w1.cell? ⟨w.heap.size, 0, none⟩ = some (.int .i64 d0) ∧ w1.cell? ⟨w.heap.size, 1, none⟩ = some (.int .i64 d1) ∧ w1.cell? ⟨w.heap.size, 2, none⟩ = some (.int .i64 d2) ∧ w1.cell? ⟨w.heap.size, 3, none⟩ = some (.int .i64 d3)
  coe : ∀ w1, P w1 → w1.cell? ⟨w.heap.size, 4, none⟩ = some (.int .i64 c0) ∧ w1.cell? ⟨w.heap.size, 5, none⟩ = some (.int .i64 c1) ∧ w1.cell? ⟨w.heap.size, 6, none⟩ = some (.int .i64 c2) ∧ w1.cell? ⟨w.heap.size, 7, none⟩ = some (.int .i64 c3)
  res : ∀ w1, P w1 → w1.cell? ⟨w.heap.size, 8, none⟩ = some (.int .i64 st) ∧ w1.cell? ⟨w.heap.size, 9, none⟩ = some (.slice NA nn nc) ∧ w1.cell? ⟨w.heap.size, 10, none⟩ = some (.slice XA xn xc) ∧ w1.cell? ⟨w.heap.size, 11, none⟩ = some (.int .i64 out)
  nodes : ∀ w1, P w1 → NodesAt w1 NA ns
  next : ∀ w1, P w1 → Ints w1 XA nx
  lt : ∀ w1, P w1 → w.heap.size + 1 ≤ w1.heap.size
theorem NetQ.go1 {w : World} {P : World → Prop} {d0 d1 d2 d3 c0 c1 c2 c3 st : Int} {NA : Option Addr} {ns : List (List (Int × Int))} {nn nc : Nat} {XA : Option Addr} {nx : List Int} {xn xc : Nat} {out : Int} (h : NetQ w P d0 d1 d2 d3 c0 c1 c2 c3 st NA ns nn nc XA nx xn xc out) {w1 w2 : World} (h1 : P w1) (h2 : Below w1.heap.size w1 w2) : P w2 := h.go w1 w2 h1 (h2.mono (h.lt w1 h1))
theorem NetQ.al {w : World} {P : World → Prop} {d0 d1 d2 d3 c0 c1 c2 c3 st : Int} {NA : Option Addr} {ns : List (List (Int × Int))} {nn nc : Nat} {XA : Option Addr} {nx : List Int} {xn xc : Nat} {out : Int} (h : NetQ w P d0 d1 d2 d3 c0 c1 c2 c3 st NA ns nn nc XA nx xn xc out) {w1 : World} (h1 : P w1) (o : Obj) : P (w1.alloc o) := h.go1 h1 ((Below.refl _ _).alloc (Nat.le_refl _) o)
theorem netQ_mk (w : World) (d0 d1 d2 d3 c0 c1 c2 c3 st : Int) (NA : Option Addr) (ns : List (List (Int × Int))) (nn nc : Nat) (XA : Option Addr) (nx : List Int) (xn xc : Nat) (out : Int) (hN : NodesAt w NA ns) (hX : Ints w XA nx) :
    ∃ P : World → Prop, P (w.alloc (.cells #[.int .i64 d0, .int .i64 d1, .int .i64 d2, .int .i64 d3, .int .i64 c0, .int .i64 c1, .int .i64 c2, .int .i64 c3, .int .i64 st, .slice NA nn nc, .slice XA xn xc, .int .i64 out] 31)) ∧ NetQ w P d0 d1 d2 d3 c0 c1 c2 c3 st NA ns nn nc XA nx xn xc out := by
  refine ⟨Below (w.heap.size + 1) (w.alloc (.cells #[.int .i64 d0, .int .i64 d1, .int .i64 d2, .int .i64 d3, .int .i64 c0, .int .i64 c1, .int .i64 c2, .int .i64 c3, .int .i64 st, .slice NA nn nc, .slice XA xn xc, .int .i64 out] 31)), Below.refl _ _, ?_⟩
  have a : ∀ (k : Nat) {w'} (h : Below (w.heap.size + 1) (w.alloc (.cells #[.int .i64 d0, .int .i64 d1, .int .i64 d2, .int .i64 d3, .int .i64 c0, .int .i64 c1, .int .i64 c2, .int .i64 c3, .int .i64 st, .slice NA nn nc, .slice XA xn xc, .int .i64 out] 31)) w'),
      w'.cell? ⟨w.heap.size, k, none⟩ = (w.alloc (.cells #[.int .i64 d0, .int .i64 d1, .int .i64 d2, .int .i64 d3, .int .i64 c0, .int .i64 c1, .int .i64 c2, .int .i64 c3, .int .i64 st, .slice NA nn nc, .slice XA xn xc, .int .i64 out] 31)).cell? ⟨w.heap.size, k, none⟩ := fun k w' h => h.cell (Nat.lt_succ_self _)
  exact ⟨fun w1 w2 h1 h2 => h1.trans h2, fun w1 h1 => below_net2 h1,
    fun w' h => ⟨(a 0 h).trans (by simp [go_sem]), (a 1 h).trans (by simp [go_sem]), (a 2 h).trans (by simp [go_sem]), (a 3 h).trans (by simp [go_sem])⟩,
    fun w' h => ⟨(a 4 h).trans (by simp [go_sem]), (a 5 h).trans (by simp [go_sem]), (a 6 h).trans (by simp [go_sem]), (a 7 h).trans (by simp [go_sem])⟩,
    fun w' h => ⟨(a 8 h).trans (by simp [go_sem]), (a 9 h).trans (by simp [go_sem]), (a 10 h).trans (by simp [go_sem]), (a 11 h).trans (by simp [go_sem])⟩,
    fun w1 h1 => hN.grow (below_net2 h1), fun w1 h1 => hX.grow (below_net2 h1), fun w1 h1 => by have := h1.size; simp at this; omega⟩
/-- The parts of a valid network. -/
theorem netB_parts {d0 d1 d2 d3 c0 c1 c2 c3 st out : Int} {ns : List (List (Int × Int))} {nx : List Int} (h : netB d0 d1 d2 d3 c0 c1 c2 c3 st ns nx out = true) :
    okW d0 d1 d2 d3 = true ∧ okW c0 c1 c2 c3 = true ∧ (0 ≤ st ∧ st ≤ 64) ∧ ns.length ≤ 64 ∧ st = (nx.length : Int) ∧ (∀ (k : Nat) ts, ns[k]? = some ts → ts.length ≤ 64 ∧ ∀ t ∈ ts, (0 ≤ t.1 ∧ t.1 ≤ st + k) ∧ -8388608 ≤ t.2 ∧ t.2 ≤ 8388608) ∧
    (∀ v ∈ nx, 0 ≤ v ∧ v ≤ st + ns.length) ∧ 0 ≤ out ∧ out ≤ st + ns.length := by
  unfold netB netHeadB at h
  simp only [Bool.and_eq_true, decide_eq_true_eq, beq_iff_eq] at h
  obtain ⟨⟨h1, h2, h3, h4, h5⟩, h6, h7, h8⟩ := h
  refine ⟨h1, h2, inB_iff.1 h3, h4, h5.symm, fun k ts hk => ?_, fun v hv => inB_iff.1 (List.all_eq_true.1 h7 v hv), inB_iff.1 h8⟩
  have hk' := (List.getElem?_eq_some_iff.1 hk).1
  unfold nodesB at h6
  have := List.all_eq_true.1 h6 k (List.mem_range.2 hk')
  rw [hk] at this
  simp only [nodeB, Bool.and_eq_true, decide_eq_true_eq] at this
  exact ⟨this.1, fun t ht => term_23 h2 (List.all_eq_true.1 this.2 t ht)⟩
/-- next[i] = values[k]. -/
theorem foS_set {nx vs : List Int} {S k : Nat} {y : Int} (hk : nx[k]? = some y) (h : k < S) (hl : nx.length = S) :
    ((nx.take k).map (atF vs) ++ List.replicate (S - k) 0).set k (atF vs y) = (nx.take (k + 1)).map (atF vs) ++ List.replicate (S - (k + 1)) 0 := by
  have hl2 : ((nx.take k).map (atF vs)).length = k := by simp; omega
  rw [List.set_append_right _ _ (by omega), hl2, Nat.sub_self, take_snoc' hk, List.map_append, List.append_assoc]
  congr 1
  rw [show S - k = (S - (k + 1)) + 1 by omega, List.replicate_succ, List.set_cons_zero]
  rfl
set_option maxHeartbeats 1000000 in
theorem nw_follow (d0 d1 d2 d3 c0 c1 c2 c3 st out : Int) (NA XA VA : Option Addr) (nc xc vn vc : Nat) (ns : List (List (Int × Int))) (nx vs : List Int) (w : World) (hN : NodesAt w NA ns) (hX : Ints w XA nx) (hV : Ints w VA vs) (hvn : vs.length = vn) (hv9 : vn ≤ 1000000)
    (hst : st = (nx.length : Int)) (h64 : nx.length ≤ 64) (hin : ∀ v ∈ nx, 0 ≤ v ∧ v < (vn : Int)) :
    Calls Try.prog 55 #[netV d0 d1 d2 d3 c0 c1 c2 c3 st NA ns.length nc XA nx.length xc out, .slice VA vn vc] w (RetInts1 w (followF nx vs)) := by
  subst hst
  obtain ⟨xn, hxn⟩ : ∃ n, nx.length = n := ⟨_, rfl⟩
  have HXN := Lib.hid hxn
  obtain ⟨P, HP0, PN0⟩ := netQ_mk w d0 d1 d2 d3 c0 c1 c2 c3 (nx.length : Int) NA ns ns.length nc XA nx nx.length xc out hN hX
  rw [hxn] at HP0 PN0 h64
  obtain ⟨nn, hnn⟩ : ∃ n, ns.length = n := ⟨_, rfl⟩
  rw [hnn] at HP0 PN0
  unfold netV
  rw [hnn, hxn]
  have HP := Lib.hid HP0
  have PN := Lib.hid PN0
  have HIN := Lib.hid hin
  have HV := Lib.hid hV
  have HVN := Lib.hid hvn
  clear HP0 PN0 hnn hxn hN hX hin hV hvn
  go_enter Try.func55, Try.ntmps55
  go_wp2_with (first | (at_make; refine mk_int rfl _ _ rfl (w.heap.size + 1) xn rfl rfl rfl (by omega) (by simp) ?_; intro w1 hown1 hb1; have hp1 := PN.out.go1 HP.out hb1; obtain ⟨z1, z2, z3, z4⟩ := PN.out.res _ hp1))
  have hg : w.heap.size + 1 < w1.heap.size := by have := hown1.block; simp at this; omega
  have HO : Hid (Own (w.heap.size + 1) w1 (.slice (some ⟨w.heap.size + 1, 0, none⟩) xn xn) ((nx.take 0).map (atF vs) ++ List.replicate (xn - 0) 0)) := Lib.hid (by simpa using hown1)
  have HP1 := Lib.hid hp1
  clear hp1 hown1 hb1 z1 z2 z3 z4
  go_loopw [14] (fun i wr => ∃ k : Nat, k ≤ xn ∧ i = .int .i64 k ∧ Hid (Own (w.heap.size + 1) wr (.slice (some ⟨w.heap.size + 1, 0, none⟩) xn xn) ((nx.take k).map (atF vs) ++ List.replicate (xn - k) 0)) ∧ P wr) (fun i _ => xn - (intOf i).toNat)
  case atStart => exact ⟨0, Nat.zero_le _, rfl, HO, HP1.out⟩
  case round =>
    obtain ⟨k, hk, rfl, HO, hp⟩ := hrel
    by_cases hlt : k < xn
    · obtain ⟨ad, y, rfl, hba, hy, hcy, y1, y2⟩ := (PN.out.next _ hp).at_ (k := k) (by rw [HXN.out]; exact hlt)
      obtain ⟨v1, v2⟩ := HIN.out y (List.mem_of_getElem? hy)
      obtain ⟨j, rfl⟩ : ∃ j : Nat, y = (j : Int) := ⟨y.toNat, by omega⟩
      obtain ⟨av, z, rfl, hbv, hz, hcz, z1, z2⟩ := (HV.out.grow (PN.out.old _ hp)).at_ (k := j) (by rw [HVN.out]; omega)
      have HS := Lib.hid (foS_set (vs := vs) hy hlt HXN.out)
      rw [atF_nat hz] at HS
      have hfr := HO.out.free k
      have hnw : ((nx.take k).map (atF vs) ++ List.replicate (xn - k) 0)[k]? = some 0 := by
        have hl0 : ((nx.take k).map (atF vs)).length = k := by simp [HXN.out]; omega
        rw [List.getElem?_append_right (by omega), hl0, Nat.sub_self, List.getElem?_replicate, if_pos (by omega)]
      have hcn := HO.out.cell hnw
      have hset := HO.out.set k (y := z) ⟨z1, z2⟩
      have hbs := HO.out.block
      have hp2 : P (wr.setCell ⟨w.heap.size + 1, k, none⟩ (.int .i64 z)) := PN.out.go _ _ hp (below_set (Below.refl _ _) (Nat.le_refl _))
      have HP2 := Lib.hid hp2
      have HSET := Lib.hid hset
      have x1 : (0 : Int) ≤ (k : Int) := by omega
      have x2 : (k : Int) < (xn : Int) := by omega
      clear hp hp2 hset hy hz hnw
      go_wp2_with fail
      go_roundw
      case rel => exact ⟨k + 1, by omega, by go_num, by rw [← HS.out]; exact HSET.out, HP2.out⟩
      case measure => simp [intOf]; omega
    · obtain rfl : k = xn := by omega
      have HPP := Lib.hid hp
      clear hp
      go_wp2_with fail
      go_ret
      refine ⟨_, rfl, ?_, PN.out.old _ HPP.out⟩
      have := HO.out
      rw [← HXN.out, List.take_length, Nat.sub_self, List.replicate_zero, List.append_nil] at this
      have hb := this.base (Nat.le_succ _)
      rw [HXN.out] at hb
      exact hb
end Go.Proofs.Ytgabfdappeakiaa
end
section
/- The walks of wrong, compute, Values and Step of package network, for valid networks, states and inputs. -/
set_option linter.unusedVariables false
set_option linter.unusedSimpArgs false
namespace Go.Proofs.Ytgabfdappeakiaa
open Go.RowKit

theorem fits_cons {d0 d1 d2 d3 x : Int} {s : List Int} (h1 : fitsW d0 d1 d2 d3 x = true) (h2 : ∀ v ∈ s, fitsW d0 d1 d2 d3 v = true) : ∀ v ∈ x :: s, fitsW d0 d1 d2 d3 v = true := fun v hv => by
  rcases List.mem_cons.1 hv with rfl | h
  · exact h1
  · exact h2 v h
theorem sumT_succ {ts : List (Int × Int)} {vs : List Int} {i : Nat} {t : Int × Int} (h : ts[i]? = some t) : sumT ts vs (i + 1) = sumT ts vs i + t.2 * atF vs t.1 := by
  show sumT ts vs i + _ = _
  rw [h]
/-- What a step of a sum needs. -/
theorem sum_step {ts : List (Int × Int)} {vs : List Int} {i : Nat} {f c y : Int} (ht : ∀ t ∈ ts, -8388608 ≤ t.2 ∧ t.2 ≤ 8388608) (hv : ∀ v ∈ vs, -8388608 ≤ v ∧ v ≤ 8388608) (h64 : ts.length ≤ 64) (h : ts[i]? = some (f, c)) (hy : atF vs f = y) :
    sumT ts vs (i + 1) = sumT ts vs i + c * y ∧ IntKind.i64.wrap (c * y) = c * y ∧ IntKind.i64.wrap (sumT ts vs i + c * y) = sumT ts vs i + c * y := by
  have h1 := sumT_succ (vs := vs) h
  simp only at h1
  rw [hy] at h1
  have hi := (List.getElem?_eq_some_iff.1 h).1
  have b1 := prod_46 (ht _ (List.mem_of_getElem? h)) (atF_23 hv f)
  rw [hy] at b1
  simp only at b1
  have b2 := sumT_bound ht hv (i + 1)
  rw [h1] at b2
  exact ⟨h1, IntWalk.i64_in _ (by omega), IntWalk.i64_in _ (by omega)⟩
theorem sum_i64 {ts : List (Int × Int)} {vs : List Int} (ht : ∀ t ∈ ts, -8388608 ≤ t.2 ∧ t.2 ≤ 8388608) (hv : ∀ v ∈ vs, -8388608 ≤ v ∧ v ≤ 8388608) (h64 : ts.length ≤ 64) : I64 (sumT ts vs ts.length) := by
  have := sumT_bound ht hv ts.length
  constructor <;> omega
/-- The values of a network, and whether one overflowed. -/
def RetVals (w : World) (l : List Int) (o : Bool) (e : Ending) (w' : World) : Prop := ∃ v, e = .returned (.tuple #[v, .bool o]) ∧ Own w.heap.size w' v l ∧ Below w.heap.size w w'
def RetVals3 (w : World) (l : List Int) (o : Bool) (e : Ending) (w' : World) : Prop := ∃ A c, e = .returned (.tuple #[.slice A l.length c, .bool o, .int .i64 0]) ∧ Ints w' A l ∧ Below w.heap.size w w'
/-- A step: the next state, the output, an overflow. -/
def RetStep (w : World) (l : List Int) (y : Int) (o : Bool) (e : Ending) (w' : World) : Prop := ∃ A c, e = .returned (.tuple #[.slice A l.length c, .int .i64 y, .bool o, .int .i64 0]) ∧ Ints w' A l ∧ (l ≠ [] → ∀ a, A = some a → w.heap.size ≤ a.block) ∧ Below w.heap.size w w'
set_option maxHeartbeats 1000000 in
theorem nw_wrong (d0 d1 d2 d3 c0 c1 c2 c3 st out : Int) (NA XA SA IA : Option Addr) (nc xc sn sc im ic : Nat) (ns : List (List (Int × Int))) (nx s is : List Int) (w : World) (hN : NodesAt w NA ns) (hX : Ints w XA nx) (hS : Ints w SA s) (hI : Ints w IA is)
    (hsn : s.length = sn) (him : is.length = im) (hst : (sn : Int) = st) (hs9 : sn ≤ 1000000) (hi9 : im ≤ 1000000) (hfs : ∀ v ∈ s, fitsW d0 d1 d2 d3 v = true) (hfi : ∀ v ∈ is, fitsW d0 d1 d2 d3 v = true) :
    Calls Try.prog 59 #[netV d0 d1 d2 d3 c0 c1 c2 c3 st NA ns.length nc XA nx.length xc out, .slice SA sn sc, .slice IA im ic] w fun e w' => e = .returned (.int .i64 0) ∧ Below w.heap.size w w' := by
  subst hst
  obtain ⟨xn, hxn⟩ : ∃ n, nx.length = n := ⟨_, rfl⟩
  obtain ⟨nn, hnn⟩ : ∃ n, ns.length = n := ⟨_, rfl⟩
  obtain ⟨P, HP0, PN0⟩ := netQ_mk w d0 d1 d2 d3 c0 c1 c2 c3 (sn : Int) NA ns ns.length nc XA nx nx.length xc out hN hX
  rw [hxn, hnn] at HP0 PN0
  unfold netV
  rw [hnn, hxn]
  have HP := Lib.hid HP0
  have PN := Lib.hid PN0
  have HFS := Lib.hid hfs
  have HFI := Lib.hid hfi
  have HS := Lib.hid hS
  have HI := Lib.hid hI
  have HSN := Lib.hid hsn
  have HIM := Lib.hid him
  have FT : Hid (∀ v w, fitsW d0 d1 d2 d3 v = true → Calls Try.prog 39 #[wordV d0 d1 d2 d3, .int .i64 v] w fun e w' => e = .returned (.bool true) ∧ Below w.heap.size w w') := fun v w h => by have := fx_Fits d0 d1 d2 d3 v w; rw [h] at this; exact this
  clear HP0 PN0 hnn hxn hN hX hS hI hfs hfi hsn him
  go_enter Try.func59, Try.ntmps59
  go_wp2_with fail
  go_loopw [18] (fun i wr => ∃ k : Nat, k ≤ sn ∧ i = .int .i64 k ∧ P wr) (fun i _ => sn - (intOf i).toNat)
  case atStart => exact ⟨0, Nat.zero_le _, rfl, HP.out⟩
  case round =>
    obtain ⟨k, hk, rfl, hp⟩ := hrel
    obtain ⟨z1, z2, z3, z4⟩ := PN.out.dat _ hp
    have hlw := PN.out.lt _ hp
    by_cases hlt : k < sn
    · obtain ⟨ad, y, rfl, hba, hy, hcy, y1, y2⟩ := (HS.out.grow (PN.out.old _ hp)).at_ (k := k) (by rw [HSN.out]; exact hlt)
      have hf := HFS.out y (List.mem_of_getElem? hy)
      have HF := Lib.hid hf
      have HPP := Lib.hid hp
      have x1 : (0 : Int) ≤ (k : Int) := by omega
      have x2 : (k : Int) < (sn : Int) := by omega
      clear hy hf hp
      go_wp2_with (first | (go_at_call 39; with_reducible refine (FT.out _ _ HF.out).mono ?_; rintro e w1 ⟨rfl, hb1⟩))
      go_roundw
      case rel => exact ⟨k + 1, by omega, by go_num, PN.out.go1 HPP.out hb1⟩
      case measure => simp [intOf]; omega
    · obtain rfl : k = sn := by omega
      have HPP := Lib.hid hp
      clear hp z1 z2 z3 z4
      go_wp2_with fail
      go_loopw [30] (fun i wr => ∃ k : Nat, k ≤ im ∧ i = .int .i64 k ∧ P wr) (fun i _ => im - (intOf i).toNat)
      case atStart => exact ⟨0, Nat.zero_le _, rfl, HPP.out⟩
      case round =>
        obtain ⟨j, hj, rfl, hp⟩ := hrel
        obtain ⟨z1, z2, z3, z4⟩ := PN.out.dat _ hp
        have hlw := PN.out.lt _ hp
        by_cases hlt2 : j < im
        · obtain ⟨ad, y, rfl, hba, hy, hcy, y1, y2⟩ := (HI.out.grow (PN.out.old _ hp)).at_ (k := j) (by rw [HIM.out]; exact hlt2)
          have hf := HFI.out y (List.mem_of_getElem? hy)
          have HF := Lib.hid hf
          have HPP := Lib.hid hp
          have x1 : (0 : Int) ≤ (j : Int) := by omega
          have x2 : (j : Int) < (im : Int) := by omega
          clear hy hf hp
          go_wp2_with (first | (go_at_call 39; with_reducible refine (FT.out _ _ HF.out).mono ?_; rintro e w1 ⟨rfl, hb1⟩))
          go_roundw
          case rel => exact ⟨j + 1, by omega, by go_num, PN.out.go1 HPP.out hb1⟩
          case measure => simp [intOf]; omega
        · obtain rfl : j = im := by omega
          have HPP := Lib.hid hp
          clear hp
          go_wp2_with fail
          go_ret
          exact ⟨rfl, PN.out.old _ HPP.out⟩
set_option maxRecDepth 100000 in
set_option maxHeartbeats 2000000 in
theorem nw_compute (d0 d1 d2 d3 c0 c1 c2 c3 st out x : Int) (NA XA SA : Option Addr) (nc xc sn sc : Nat) (ns : List (List (Int × Int))) (nx s : List Int) (w : World) (hok : netB d0 d1 d2 d3 c0 c1 c2 c3 st ns nx out = true) (hN : NodesAt w NA ns) (hX : Ints w XA nx) (hS : Ints w SA s)
    (hsn : s.length = sn) (hst : (sn : Int) = st) (hfs : ∀ v ∈ s, fitsW d0 d1 d2 d3 v = true) (hfx : fitsW d0 d1 d2 d3 x = true) :
    Calls Try.prog 60 #[netV d0 d1 d2 d3 c0 c1 c2 c3 st NA ns.length nc XA nx.length xc out, .slice SA sn sc, .int .i64 x] w (RetVals w (valsF d0 d1 d2 d3 c1 ns (x :: s) ns.length) (overF d0 d1 d2 d3 c1 ns (x :: s) ns.length)) := by
  subst hst
  obtain ⟨p1, p2, p3, p4, -, p5, -, -⟩ := netB_parts hok
  obtain ⟨xn, hxn⟩ : ∃ n, nx.length = n := ⟨_, rfl⟩
  obtain ⟨nn, hnn⟩ : ∃ n, ns.length = n := ⟨_, rfl⟩
  obtain ⟨P, HP0, PN0⟩ := netQ_mk w d0 d1 d2 d3 c0 c1 c2 c3 (sn : Int) NA ns ns.length nc XA nx nx.length xc out hN hX
  rw [hxn, hnn] at HP0 PN0
  unfold netV
  rw [hnn, hxn]
  rw [hnn] at p4
  have hx23 := fits_23 hfx
  have HLEN : Hid (∀ k, k ≤ nn → (valsF d0 d1 d2 d3 c1 ns (x :: s) k).length = 1 + sn + k) := fun k hk => by rw [valsF_length _ _ _ _ _ _ _ k (by omega), List.length_cons, hsn]; omega
  have HB : Hid (∀ k, ∀ v ∈ valsF d0 d1 d2 d3 c1 ns (x :: s) k, -8388608 ≤ v ∧ v ≤ 8388608) := fun k v hv => fits_23 (valsF_fits p1 (fits_cons hfx hfs) k v hv)
  have HP := Lib.hid HP0
  have PN := Lib.hid PN0
  have HTS := Lib.hid p5
  have HS := Lib.hid hS
  have HSN := Lib.hid hsn
  have HNN := Lib.hid hnn
  clear HP0 PN0 hnn hxn hN hX hS hfs hfx hsn p5 p1 p2 hok
  have hs64 : sn ≤ 64 := by omega
  clear p3
  have HSZ : Hid (∀ o, (w.alloc o).heap.size = w.heap.size + 1) := Lib.hid (fun o => by simp)
  go_enter Try.func60, Try.ntmps60
  go_wp2_with (first
    | (at_make; refine mk_int0 rfl _ _ rfl (w.heap.size + 1) (1 + sn + nn) rfl rfl (by push_cast; rfl) (by omega) (by simp) ?_; intro w1 hown1 hb1; rw [show (w.alloc (.cells #[.int .i64 d0, .int .i64 d1, .int .i64 d2, .int .i64 d3, .int .i64 c0, .int .i64 c1, .int .i64 c2, .int .i64 c3, .int .i64 (sn : Int), .slice NA nn nc, .slice XA xn xc, .int .i64 out] 31)).heap.size = w.heap.size + 1 from HSZ.out _] at hown1; have hp1 := PN.out.go1 HP.out hb1; obtain ⟨z1, z2, z3, z4⟩ := PN.out.res _ hp1; have hs1 := PN.out.lt _ hp1)
    | (at_builtin; refine app_int w1 rfl _ _ rfl (w.heap.size + 1) hown1 rfl rfl (by simp) hs1 (y := x) ⟨by omega, by omega⟩ ?_; intro v2 w2 hown2 hb2; have hp2 := PN.out.go _ _ hp1 hb2; obtain ⟨z1, z2, z3, z4⟩ := PN.out.res _ hp2; have hs2 := PN.out.lt _ hp2; have hI2 := HS.out.grow (PN.out.old _ hp2))
    | (at_builtin; refine app_intsN w2 rfl _ _ rfl (w.heap.size + 1) (m := s) rfl rfl HSN.out hown2 hI2 (by simp; omega) hs2 ?_; intro v3 w3 hown3 hb3; have hp3 := PN.out.go _ _ hp2 hb3; obtain ⟨z1, z2, z3, z4⟩ := PN.out.res _ hp3))
  have HO3 : Hid (Own (w.heap.size + 1) w3 v3 (valsF d0 d1 d2 d3 c1 ns (x :: s) 0)) := hown3
  have HP3 := Lib.hid hp3
  clear hp3 hown3 hb3 z1 z2 z3 z4 hp2 hown2 hb2 hI2 hp1 hown1 hb1 hs1 hs2 hx23
  go_loopw [8, 9, 34] (fun v o i wr => ∃ k : Nat, k ≤ nn ∧ i = .int .i64 k ∧ o = .bool (overF d0 d1 d2 d3 c1 ns (x :: s) k) ∧ Hid (Own (w.heap.size + 1) wr v (valsF d0 d1 d2 d3 c1 ns (x :: s) k)) ∧ P wr) (fun _ _ i _ => nn - (intOf i).toNat)
  case atStart => exact ⟨0, Nat.zero_le _, rfl, rfl, HO3, HP3.out⟩
  case round =>
    obtain ⟨k, hk, rfl, rfl, HO, hp⟩ := hrel
    have hlw := PN.out.lt _ hp
    by_cases hlt : k < nn
    · obtain ⟨ts, hts⟩ : ∃ ts, ns[k]? = some ts := ⟨_, List.getElem?_eq_getElem (by rw [HNN.out]; exact hlt)⟩
      obtain ⟨ad, B, bc, rfl, hba, cn, hT⟩ := PN.out.nodes _ hp k ts hts
      obtain ⟨hl64, hterms⟩ := HTS.out k ts hts
      obtain ⟨vs, hvs⟩ : ∃ vs, valsF d0 d1 d2 d3 c1 ns (x :: s) k = vs := ⟨_, rfl⟩
      have hsucc := valsF_succ (d0 := d0) (d1 := d1) (d2 := d2) (d3 := d3) (c1 := c1) (x := x :: s) hts
      have hover := overF_succ (d0 := d0) (d1 := d1) (d2 := d2) (d3 := d3) (c1 := c1) (x := x :: s) hts
      have hvl := HLEN.out k (by omega)
      have hvb := HB.out k
      rw [hvs] at hsucc hover hvl hvb HO
      obtain ⟨ov, hov⟩ : ∃ ov, overF d0 d1 d2 d3 c1 ns (x :: s) k = ov := ⟨_, rfl⟩
      rw [hov] at hover ⊢
      obtain ⟨U, hU⟩ : ∃ U, nodeV d2 c1 vs ts = U := ⟨_, rfl⟩
      have hU2 : shiftF (sumT ts vs ts.length) c1 d2 = U := hU
      rw [hU] at hsucc hover
      have HSUCC := Lib.hid hsucc
      have HOVER := Lib.hid hover
      have HU2 := Lib.hid hU2
      have HVL := Lib.hid hvl
      have HVB := Lib.hid hvb
      have HTE := Lib.hid hterms
      have HSI := Lib.hid (sum_i64 (fun t ht => (hterms t ht).2) hvb hl64)
      have HPP := Lib.hid (PN.out.al hp (.cells #[.slice B ts.length bc] 58))
      have HTA := Lib.hid (hT.grow (Below.alloc (Below.refl wr.heap.size wr) (Nat.le_refl _) (.cells #[.slice B ts.length bc] 58)))
      have HOA := Lib.hid (HO.out.grow (Below.alloc (Below.refl wr.heap.size wr) (Nat.le_refl _) (.cells #[.slice B ts.length bc] 58)))
      have y1 : (0 : Int) ≤ (k : Int) := by omega
      have y2 : (k : Int) < (nn : Int) := by omega
      clear hp hT hts hsucc hover hvl hvb hterms hvs hov hU hU2 HO
      obtain ⟨VA, vcap, e8, hcap, -⟩ := HOA.out.form
      subst e8
      obtain ⟨vn, hvn⟩ : ∃ vn, vs.length = vn := ⟨_, rfl⟩
      rw [hvn] at HOA hcap ⊢
      have HVK : Hid (vn = 1 + sn + k) := Lib.hid (by rw [← hvn]; exact HVL.out)
      have HVN := Lib.hid hvn
      clear hvn hcap
      go_wp2_with fail
      clear cn
      obtain ⟨wo, rfl⟩ : ∃ wo : World, wo = wr := ⟨_, rfl⟩
      go_loopw [12, 41] (fun u i wr => ∃ j : Nat, j ≤ ts.length ∧ i = .int .i64 j ∧ u = .int .i64 (sumT ts vs j) ∧ P wr ∧ TermsAt wr B ts ∧ Hid (Own (w.heap.size + 1) wr (.slice VA vn vcap) vs)) (fun _ i _ => ts.length - (intOf i).toNat)
      case atStart => exact ⟨0, Nat.zero_le _, rfl, rfl, HPP.out, HTA.out, HOA⟩
      case round =>
        obtain ⟨j, hj, rfl, rfl, hp, hT, HO⟩ := hrel
        have hlw := PN.out.lt _ hp
        obtain ⟨z1, z2, z3, z4⟩ := PN.out.dat _ hp
        obtain ⟨t1, t2, t3, t4⟩ := PN.out.coe _ hp
        by_cases hltj : j < ts.length
        · obtain ⟨tm, htm⟩ : ∃ tm, ts[j]? = some tm := ⟨_, List.getElem?_eq_getElem hltj⟩
          obtain ⟨a2, rfl, hb2, ct0, ct1, i1, i2⟩ := hT j tm htm
          obtain ⟨⟨f1, f2⟩, f3, f4⟩ := HTE.out tm (List.mem_of_getElem? htm)
          obtain ⟨f, cv⟩ := tm
          simp only at ct0 ct1 i1 i2 f1 f2 f3 f4
          obtain ⟨q, rfl⟩ : ∃ q : Nat, f = (q : Int) := ⟨f.toNat, by omega⟩
          obtain ⟨A', c', eA, -, hIV⟩ := HO.out.form
          rw [HVN.out] at eA
          injection eA with eA1 eA2 eA3
          subst eA1
          obtain ⟨av, z, rfl, hbv, hz, hcz, -, -⟩ := hIV.at_ (k := q) (by rw [HVN.out, HVK.out]; omega)
          obtain ⟨s1, s2, s3⟩ := sum_step (fun t ht => (HTE.out t ht).2) HVB.out hl64 htm (atF_nat hz)
          have HS1 := Lib.hid s1
          have x2 : (0 : Int) ≤ (j : Int) := by omega
          have x3 : (j : Int) < (ts.length : Int) := by omega
          have hcz2 : (wr.alloc (.cells #[.int .i64 (q : Int), .int .i64 cv] 63)).cell? (av.add q) = some (.int .i64 z) := ((Below.alloc (Below.refl wr.heap.size wr) (Nat.le_refl _) _).cell (by rw [block_add]; exact hbv)).trans hcz
          have x4 : (q : Int) < (vn : Int) := by rw [HVK.out]; omega
          have HBA : Hid (∀ n, Below wr.heap.size wr ((wr.alloc (.cells #[.int .i64 (q : Int), .int .i64 cv] 63)).drewN n)) := Lib.hid (fun n => below_drewN ((Below.refl wr.heap.size wr).alloc (Nat.le_refl _) _) n)
          have HP2 := Lib.hid hp
          have HT2 := Lib.hid hT
          clear htm hT hp i1 i2 s1 hz hIV z1 z2 z3 z4 t1 t2 t3 t4 f1 f2 f3 f4 eA2 eA3
          go_wp2_with fail
          go_quiet (fail)
          go_wp2_with fail
          go_roundw
          case rel => exact ⟨j + 1, by omega, by go_num, by rw [HS1.out], PN.out.go1 HP2.out (HBA.out _), HT2.out.grow (HBA.out _), HO.out.grow (HBA.out _)⟩
          case measure => simp [intOf]; omega
        · obtain rfl : j = ts.length := by omega
          have hsi := HSI.out
          have HPP := Lib.hid hp
          clear hp hT z4 t4
          have FS : Hid (∀ w, Calls Try.prog 63 #[.int .i64 (sumT ts vs ts.length), .int .i64 c1, .int .i64 d2] w fun e w' => e = .returned (.int .i64 U) ∧ Below w.heap.size w w') := Lib.hid (fun w => by have := fx_Shift (sumT ts vs ts.length) c1 d2 w hsi; rw [HU2.out] at this; exact this)
          obtain ⟨R, hR⟩ : ∃ R, reduceW d0 d1 d2 d3 U = R := ⟨_, rfl⟩
          have hR23 : -8388608 ≤ R ∧ R ≤ 8388608 := HB.out (k + 1) R (by rw [HSUCC.out, ← hR]; simp)
          have FR : Hid (∀ w, Calls Try.prog 64 #[wordV d0 d1 d2 d3, .int .i64 U] w fun e w' => e = .returned (.int .i64 R) ∧ Below w.heap.size w w') := Lib.hid (fun w => by have := fx_Reduce d0 d1 d2 d3 U w; rw [hR] at this; exact this)
          have HR := Lib.hid hR
          obtain ⟨fu, hfu⟩ : ∃ fu, fitsW d0 d1 d2 d3 U = fu := ⟨_, rfl⟩
          have FF : Hid (∀ w, Calls Try.prog 39 #[wordV d0 d1 d2 d3, .int .i64 U] w fun e w' => e = .returned (.bool fu) ∧ Below w.heap.size w w') := Lib.hid (fun w => by have := fx_Fits d0 d1 d2 d3 U w; rw [hfu] at this; exact this)
          have HFU := Lib.hid hfu
          have hvl : vs.length < 100000000 := by rw [HVL.out]; omega
          clear hR hfu
          rcases ov with _ | _
          · go_wp2_with (first
              | (go_at_call 63; with_reducible refine (FS.out _).mono ?_; rintro e w4 ⟨rfl, hb4⟩; have hp4 := PN.out.go1 HPP.out hb4; obtain ⟨z1, z2, z3, z4⟩ := PN.out.dat _ hp4; have ho4 := HO.out.grow hb4)
              | (go_at_call 39; with_reducible refine (FF.out _).mono ?_; rintro e w5 ⟨rfl, hb5⟩; have hp5 := PN.out.go1 hp4 hb5; obtain ⟨z1, z2, z3, z4⟩ := PN.out.dat _ hp5; have ho5 := ho4.grow hb5)
              | (go_at_call 64; with_reducible refine (FR.out _).mono ?_; rintro e w6 ⟨rfl, hb6⟩; have hp6 := PN.out.go1 hp5 hb6; have ho6 := ho5.grow hb6; have hs6 := PN.out.lt _ hp6)
              | (at_builtin; refine app_int w6 rfl _ _ rfl (w.heap.size + 1) ho6 rfl rfl hvl hs6 (y := R) ⟨by omega, by omega⟩ ?_; intro v7 w7 ho7 hb7; have hp7 := PN.out.go _ _ hp6 hb7))
            go_roundw
            case rel => exact ⟨k + 1, by omega, by go_num, by rw [HOVER.out, HFU.out]; rfl, by rw [HSUCC.out, HR.out]; exact ho7, hp7⟩
            case measure => simp [intOf]; omega
          · go_wp2_with (first
              | (go_at_call 63; with_reducible refine (FS.out _).mono ?_; rintro e w4 ⟨rfl, hb4⟩; have hp4 := PN.out.go1 HPP.out hb4; obtain ⟨z1, z2, z3, z4⟩ := PN.out.dat _ hp4; have ho4 := HO.out.grow hb4)
              | (go_at_call 64; with_reducible refine (FR.out _).mono ?_; rintro e w6 ⟨rfl, hb6⟩; have hp6 := PN.out.go1 hp4 hb6; have ho6 := ho4.grow hb6; have hs6 := PN.out.lt _ hp6)
              | (at_builtin; refine app_int w6 rfl _ _ rfl (w.heap.size + 1) ho6 rfl rfl hvl hs6 (y := R) ⟨by omega, by omega⟩ ?_; intro v7 w7 ho7 hb7; have hp7 := PN.out.go _ _ hp6 hb7))
            go_roundw
            case rel => exact ⟨k + 1, by omega, by go_num, by rw [HOVER.out]; rfl, by rw [HSUCC.out, HR.out]; exact ho7, hp7⟩
            case measure => simp [intOf]; omega
    · have hkk : k = nn := by omega
      subst hkk
      have HPP := Lib.hid hp
      clear hp
      go_wp2_with fail
      go_ret2
      exact ⟨_, rfl, HO.out.base (Nat.le_succ _), PN.out.old _ HPP.out⟩
end Go.Proofs.Ytgabfdappeakiaa
end
section
/- The walks of Values, Step and Run of package network, for valid networks, states and inputs. -/
set_option linter.unusedVariables false
set_option linter.unusedSimpArgs false
namespace Go.Proofs.Ytgabfdappeakiaa
open Go.RowKit

theorem results_tmp4 {fn : Func} {t u v x : Tmp} (h : fn.results = #[.tmp t, .tmp u, .tmp v, .tmp x]) (tmps : Array Value) (P : Program) (w : World) :
    (results fn tmps).run P w = .ok (.tuple #[tmps.getD t undef, tmps.getD u undef, tmps.getD v undef, tmps.getD x undef]) w := by
  simp [results, h]
/-- The output of a step. -/
theorem vals_at {d0 d1 d2 d3 c0 c1 c2 c3 st out x : Int} {ns : List (List (Int × Int))} {nx s : List Int} (h : netB d0 d1 d2 d3 c0 c1 c2 c3 st ns nx out = true) (hs : (s.length : Int) = st) :
    (valsF d0 d1 d2 d3 c1 ns (x :: s) ns.length).length = 1 + s.length + ns.length := by
  rw [valsF_length _ _ _ _ _ _ _ _ (Nat.le_refl _), List.length_cons]; omega
set_option maxRecDepth 100000 in
set_option maxHeartbeats 1000000 in
theorem nw_Values (d0 d1 d2 d3 c0 c1 c2 c3 st out x : Int) (NA XA SA : Option Addr) (nc xc sn sc : Nat) (ns : List (List (Int × Int))) (nx s : List Int) (w : World) (hok : netB d0 d1 d2 d3 c0 c1 c2 c3 st ns nx out = true) (hN : NodesAt w NA ns) (hX : Ints w XA nx) (hS : Ints w SA s)
    (hsn : s.length = sn) (hst : (sn : Int) = st) (hfs : ∀ v ∈ s, fitsW d0 d1 d2 d3 v = true) (hfx : fitsW d0 d1 d2 d3 x = true) (h3 : ∀ ts ∈ ns, ts.length ≤ 9223372036854775807) :
    Calls Try.prog 54 #[netV d0 d1 d2 d3 c0 c1 c2 c3 st NA ns.length nc XA nx.length xc out, .slice SA sn sc, .int .i64 x] w (RetVals3 w (valsF d0 d1 d2 d3 c1 ns (x :: s) ns.length) (overF d0 d1 d2 d3 c1 ns (x :: s) ns.length)) := by
  subst hst
  obtain ⟨p1, p2, p3, p4, p5, -, -, -⟩ := netB_parts hok
  obtain ⟨q1, q2⟩ := fits_23 hfx
  have HXI : Hid (I64 x) := ⟨by omega, by omega⟩
  have hn9 : ns.length ≤ 9223372036854775807 := by omega
  have hx9 : nx.length ≤ 9223372036854775807 := by omega
  have hI : I64 (sn : Int) := ⟨by omega, by omega⟩
  have hsn9 : sn ≤ 1000000 := by omega
  have CV : Hid (∀ w1, NodesAt w1 NA ns → Ints w1 XA nx → Calls Try.prog 23 #[netV d0 d1 d2 d3 c0 c1 c2 c3 sn NA ns.length nc XA nx.length xc out] w1 fun e w' => e = .returned (.bool true) ∧ Below w1.heap.size w1 w') := fun w1 a b => by
    have := nw_Valid d0 d1 d2 d3 c0 c1 c2 c3 sn out NA XA nc xc ns nx w1 a b hn9 hx9 h3 hI
    rw [hok] at this; exact this
  have CW : Hid (∀ w1 IA ic, NodesAt w1 NA ns → Ints w1 XA nx → Ints w1 SA s → Ints w1 IA [x] → Calls Try.prog 59 #[netV d0 d1 d2 d3 c0 c1 c2 c3 sn NA ns.length nc XA nx.length xc out, .slice SA sn sc, .slice IA 1 ic] w1 fun e w' => e = .returned (.int .i64 0) ∧ Below w1.heap.size w1 w') := fun w1 IA ic a b c d =>
    nw_wrong d0 d1 d2 d3 c0 c1 c2 c3 sn out NA XA SA IA nc xc sn sc 1 ic ns nx s [x] w1 a b c d hsn rfl rfl hsn9 (by decide) hfs (by simpa using hfx)
  have CC : Hid (∀ w1, NodesAt w1 NA ns → Ints w1 XA nx → Ints w1 SA s → Calls Try.prog 60 #[netV d0 d1 d2 d3 c0 c1 c2 c3 sn NA ns.length nc XA nx.length xc out, .slice SA sn sc, .int .i64 x] w1 fun e w' => ∃ v, e = .returned (.tuple #[v, .bool (overF d0 d1 d2 d3 c1 ns (x :: s) ns.length)]) ∧ Own w1.heap.size w' v (valsF d0 d1 d2 d3 c1 ns (x :: s) ns.length) ∧ Below w1.heap.size w1 w') := fun w1 a b c =>
    nw_compute d0 d1 d2 d3 c0 c1 c2 c3 sn out x NA XA SA nc xc sn sc ns nx s w1 hok a b c hsn rfl hfs hfx
  obtain ⟨P, HP0, PN0⟩ := netQ_mk w d0 d1 d2 d3 c0 c1 c2 c3 (sn : Int) NA ns ns.length nc XA nx nx.length xc out hN hX
  obtain ⟨vs, hvs⟩ : ∃ vs, valsF d0 d1 d2 d3 c1 ns (x :: s) ns.length = vs := ⟨_, rfl⟩
  obtain ⟨ov, hov⟩ : ∃ ov, overF d0 d1 d2 d3 c1 ns (x :: s) ns.length = ov := ⟨_, rfl⟩
  rw [hvs, hov] at CC ⊢
  obtain ⟨xn, hxn⟩ : ∃ n, nx.length = n := ⟨_, rfl⟩
  obtain ⟨nn, hnn⟩ : ∃ n, ns.length = n := ⟨_, rfl⟩
  rw [hxn, hnn] at HP0 PN0 CV CW CC
  unfold netV at CV CW CC ⊢
  rw [hnn, hxn]
  have HP := Lib.hid HP0
  have PN := Lib.hid PN0
  have HS := Lib.hid hS
  clear HP0 PN0 hnn hxn hN hX hS hfs hfx hsn hvs hov hok p1 p2 p3 p4 p5 h3 hn9 hx9 hI hsn9
  go_enter Try.func54, Try.ntmps54
  go_wp2_with (first
    | (go_at_call 23; with_reducible refine (CV.out _ (PN.out.nodes _ HP.out) (PN.out.next _ HP.out)).mono ?_; rintro e w1 ⟨rfl, hb1⟩; have hp1 := PN.out.go1 HP.out hb1; obtain ⟨z1, z2, z3, z4⟩ := PN.out.dat _ hp1; obtain ⟨y1, y2, y3, y4⟩ := PN.out.coe _ hp1; obtain ⟨x1, x2, x3, x4⟩ := PN.out.res _ hp1; have hl1 := PN.out.lt _ hp1)
    | (go_at_call 59; have hp1' := PN.out.al hp1 (.cells #[.int .i64 x] 3); have hx1 := lit_one (w := w1) (t := 3) HXI.out; with_reducible refine (CW.out _ _ _ (PN.out.nodes _ hp1') (PN.out.next _ hp1') (HS.out.grow (PN.out.old _ hp1')) hx1).mono ?_; rintro e w2 ⟨rfl, hb2⟩; have hp2 := PN.out.go1 hp1' hb2; obtain ⟨z1, z2, z3, z4⟩ := PN.out.dat _ hp2; obtain ⟨y1, y2, y3, y4⟩ := PN.out.coe _ hp2; obtain ⟨x1, x2, x3, x4⟩ := PN.out.res _ hp2)
    | (go_at_call 60; with_reducible refine (CC.out _ (PN.out.nodes _ hp2) (PN.out.next _ hp2) (HS.out.grow (PN.out.old _ hp2))).mono ?_; rintro e w3 ⟨v, rfl, ho, hb3⟩; have hp3 := PN.out.go1 hp2 hb3))
  go_ret3
  obtain ⟨A, c, rfl, -, hi⟩ := ho.form
  exact ⟨A, c, rfl, hi, PN.out.old _ hp3⟩
/-- v is a slice of numbers that reads as l. -/
def IsInts (b : Nat) (w : World) (l : List Int) (v : Value) : Prop := ∃ A c, v = .slice A l.length c ∧ Ints w A l ∧ (l ≠ [] → ∀ a, A = some a → b ≤ a.block)
theorem IsInts.grow {b : Nat} {w w' : World} {l : List Int} {v : Value} (h : IsInts b w l v) (hb : Below w.heap.size w w') : IsInts b w' l v := by
  obtain ⟨A, c, e, hi, hf⟩ := h
  exact ⟨A, c, e, hi.grow hb, hf⟩
def stepG (W N VA SV : Value) (q : Addr) (y : Int) (R : Nat) (out : Int) (l : List Int) (ov : Bool) : Nat → Value → World → Prop
  | 0, v, _ => v = N
  | 1, v, _ => v = VA
  | 2, v, w => IsInts R w l v
  | 3, v, _ => v = VA
  | 4, v, _ => v = .pointer (some ⟨R, 11, none⟩)
  | 5, v, _ => v = .int .i64 out
  | 6, v, _ => v = .pointer (some q)
  | 7, v, _ => v = .int .i64 y
  | 8, v, _ => v = .bool ov
  | 9, v, w => IsInts R w l v
  | 10, v, _ => v = .int .i64 y
  | 11, v, _ => v = .bool ov
  | 12, v, _ => v = .int .i64 0
  | _, _, _ => True
theorem stepG_keep {W N VA SV : Value} {q : Addr} {y : Int} {R : Nat} {out : Int} {l : List Int} {ov : Bool} {w w' : World} (h : Below w.heap.size w w') : ∀ i v, stepG W N VA SV q y R out l ov i v w → stepG W N VA SV q y R out l ov i v w'
  | 0, _, e => e | 1, _, e => e | 3, _, e => e | 4, _, e => e | 5, _, e => e | 6, _, e => e | 7, _, e => e | 8, _, e => e
  | 2, _, hi => hi.grow h
  | 9, _, hi => hi.grow h
  | 10, _, e => e | 11, _, e => e | 12, _, e => e
  | _ + 13, _, _ => trivial
set_option maxRecDepth 100000 in
set_option maxHeartbeats 2000000 in
theorem nw_Step (d0 d1 d2 d3 c0 c1 c2 c3 st out x : Int) (NA XA SA : Option Addr) (nc xc sn sc : Nat) (ns : List (List (Int × Int))) (nx s : List Int) (w : World) (hok : netB d0 d1 d2 d3 c0 c1 c2 c3 st ns nx out = true) (hN : NodesAt w NA ns) (hX : Ints w XA nx) (hS : Ints w SA s)
    (hsn : s.length = sn) (hst : (sn : Int) = st) (hfs : ∀ v ∈ s, fitsW d0 d1 d2 d3 v = true) (hfx : fitsW d0 d1 d2 d3 x = true) (h3 : ∀ ts ∈ ns, ts.length ≤ 9223372036854775807) :
    Calls Try.prog 46 #[netV d0 d1 d2 d3 c0 c1 c2 c3 st NA ns.length nc XA nx.length xc out, .slice SA sn sc, .int .i64 x] w
      (RetStep w (followF nx (valsF d0 d1 d2 d3 c1 ns (x :: s) ns.length)) (atF (valsF d0 d1 d2 d3 c1 ns (x :: s) ns.length) out) (overF d0 d1 d2 d3 c1 ns (x :: s) ns.length)) := by
  subst hst
  obtain ⟨p1, p2, p3, p4, p5, p6, p7, p8, p9⟩ := netB_parts hok
  have hvl := vals_at (x := x) hok (by rw [hsn])
  have CV : Hid (∀ w1, NodesAt w1 NA ns → Ints w1 XA nx → Ints w1 SA s → Calls Try.prog 54 #[netV d0 d1 d2 d3 c0 c1 c2 c3 sn NA ns.length nc XA nx.length xc out, .slice SA sn sc, .int .i64 x] w1
      fun e w' => ∃ A c, e = .returned (.tuple #[.slice A (1 + sn + ns.length) c, .bool (overF d0 d1 d2 d3 c1 ns (x :: s) ns.length), .int .i64 0]) ∧ Ints w' A (valsF d0 d1 d2 d3 c1 ns (x :: s) ns.length) ∧ Below w1.heap.size w1 w') := fun w1 a b c => by
    have := nw_Values d0 d1 d2 d3 c0 c1 c2 c3 sn out x NA XA SA nc xc sn sc ns nx s w1 hok a b c hsn rfl hfs hfx h3
    refine this.mono ?_
    rintro e w2 ⟨A, c, rfl, hi, hb⟩
    exact ⟨A, c, by rw [hvl, hsn], hi, hb⟩
  have CF : Hid (∀ w1 VA vc, NodesAt w1 NA ns → Ints w1 XA nx → Ints w1 VA (valsF d0 d1 d2 d3 c1 ns (x :: s) ns.length) → Calls Try.prog 55 #[netV d0 d1 d2 d3 c0 c1 c2 c3 sn NA ns.length nc XA nx.length xc out, .slice VA (1 + sn + ns.length) vc] w1
      fun e w' => ∃ A c, e = .returned (.slice A (followF nx (valsF d0 d1 d2 d3 c1 ns (x :: s) ns.length)).length c) ∧ Ints w' A (followF nx (valsF d0 d1 d2 d3 c1 ns (x :: s) ns.length)) ∧ (followF nx (valsF d0 d1 d2 d3 c1 ns (x :: s) ns.length) ≠ [] → ∀ a, A = some a → w1.heap.size ≤ a.block) ∧ Below w1.heap.size w1 w') := fun w1 VA vc a b c => by
    have := nw_follow d0 d1 d2 d3 c0 c1 c2 c3 sn out NA XA VA nc xc (1 + sn + ns.length) vc ns nx (valsF d0 d1 d2 d3 c1 ns (x :: s) ns.length) w1 a b c (by rw [hvl, hsn]) (by omega) p5 (by omega) (fun v hv => by have := p7 v hv; push_cast; omega)
    refine this.mono ?_
    rintro e w2 ⟨v, rfl, ho, hb⟩
    obtain ⟨A, c, rfl, -, hi⟩ := ho.form
    exact ⟨A, c, rfl, hi, fun _ a ha => by subst ha; exact (ho.1.lt a.block rfl).1, hb⟩
  obtain ⟨P, HP0, PN0⟩ := netQ_mk w d0 d1 d2 d3 c0 c1 c2 c3 (sn : Int) NA ns ns.length nc XA nx nx.length xc out hN hX
  obtain ⟨q, rfl⟩ : ∃ q : Nat, out = (q : Int) := ⟨out.toNat, by omega⟩
  have HQ : Hid (q < 1 + sn + ns.length) := by show _ < _; omega
  have HVL : Hid ((valsF d0 d1 d2 d3 c1 ns (x :: s) ns.length).length = 1 + sn + ns.length) := by rw [hsn] at hvl; exact hvl
  obtain ⟨vs, hvs⟩ : ∃ vs, valsF d0 d1 d2 d3 c1 ns (x :: s) ns.length = vs := ⟨_, rfl⟩
  obtain ⟨ov, hov⟩ : ∃ ov, overF d0 d1 d2 d3 c1 ns (x :: s) ns.length = ov := ⟨_, rfl⟩
  obtain ⟨fo, hfo⟩ : ∃ fo, followF nx vs = fo := ⟨_, rfl⟩
  rw [hvs] at CF HVL
  rw [hvs, hov] at CV
  rw [hvs, hov, hfo]
  rw [hfo] at CF
  obtain ⟨xn, hxn⟩ : ∃ n, nx.length = n := ⟨_, rfl⟩
  obtain ⟨nn, hnn⟩ : ∃ n, ns.length = n := ⟨_, rfl⟩
  rw [hxn, hnn] at HP0 PN0 CV CF
  rw [hnn] at HQ HVL
  unfold netV at CV CF ⊢
  rw [hnn, hxn]
  obtain ⟨vn, hvn⟩ : ∃ vn, 1 + sn + nn = vn := ⟨_, rfl⟩
  rw [hvn] at CV CF HQ HVL
  have HP := Lib.hid HP0
  have PN := Lib.hid PN0
  have HS := Lib.hid hS
  clear HP0 PN0 hnn hxn hN hX hS hfs hfx hsn hvs hov hok p1 p2 p3 p4 p5 p6 p7 p8 p9 h3 hvl hfo hvn
  go_enter Try.func46, Try.ntmps46
  go_upto_region 4 with (first
    | (go_at_call 54; with_reducible refine (CV.out _ (PN.out.nodes _ HP.out) (PN.out.next _ HP.out) (HS.out.grow (PN.out.old _ HP.out))).mono ?_; rintro e w1 ⟨VA, vc, rfl, hi1, hb1⟩; have hp1 := PN.out.go1 HP.out hb1))
  clear hb1
  obtain ⟨av, y, rfl, hbv, hyv, hcv, -, -⟩ := hi1.at_ (k := q) (by rw [HVL.out]; exact HQ.out)
  have HY : Hid (atF vs (q : Int) = y) := atF_nat hyv
  have HP1 := Lib.hid hp1
  have HI1 := Lib.hid hi1
  have x1 : (0 : Int) ≤ (q : Int) := by omega
  have x2 : (q : Int) < (vn : Int) := by have := HQ.out; omega
  clear hp1 hi1 hyv
  have hcl : ∀ w2, P w2 ∧ Below w1.heap.size w1 w2 → w2.cell? (av.add q) = some (.int .i64 y) := fun w2 h => (h.2.cell (by rw [block_add]; exact hbv)).trans hcv
  have HCL := Lib.hid hcl
  clear hcl hcv hbv
  refine wp_region_grow 13 (fun w2 => P w2 ∧ Below w1.heap.size w1 w2) (fun a b => Below a.heap.size a b) (stepG undef (.agg #[.int .i64 d0, .int .i64 d1, .int .i64 d2, .int .i64 d3, .int .i64 c0, .int .i64 c1, .int .i64 c2, .int .i64 c3, .int .i64 (sn : Int), .slice NA nn nc, .slice XA xn xc, .int .i64 (q : Int)]) (.slice (some av) vn vc) undef (av.add q) y w.heap.size (q : Int) fo ov) (by kernel_rfl) (by kernel_rfl) ⟨PN.out.go1 HP1.out (Below.drew (Below.refl _ _)), Below.drew (Below.refl _ _)⟩ (fun a b h1 h2 => ⟨⟨PN.out.go1 h1.1 h2, below_then h1.2 h2⟩, fun i _ v => stepG_keep h2 i v⟩) ?_ ?_
  · refine ⟨?_, ?_, ?_, ?_, ?_, ?_, ?_, ?_, ?_, ?_, ?_, ?_, ?_, trivial⟩
    all_goals
      intro vs w2 hp hF
      have hcv := HCL.out _ hp
      obtain ⟨hp, hbb⟩ := hp
      obtain ⟨z1, z2, z3, z4⟩ := PN.out.dat _ hp
      obtain ⟨y1, y2, y3, y4⟩ := PN.out.coe _ hp
      obtain ⟨r1, r2, r3, r4⟩ := PN.out.res _ hp
      have hl := PN.out.lt _ hp
      have HPP := Lib.hid hp
      have HBB := Lib.hid hbb
      clear hp hbb
      simp [depsB, Region.binds, stepG] at hF
      simp [stL, depsB, Region.binds, Act.put, hF]
    all_goals try (go_wp2_with fail; exact ⟨rfl, Below.refl _ _⟩)
    · go_wp2_with fail
      refine (CF.out _ _ _ (PN.out.nodes _ HPP.out) (PN.out.next _ HPP.out) (HI1.out.grow HBB.out)).mono ?_
      rintro e w3 ⟨A, c, rfl, hi, hfr, hb⟩
      go_wp2_with fail
      exact ⟨A, c, rfl, hi, fun hl a ha => Nat.le_trans (Nat.le_of_succ_le (PN.out.lt _ HPP.out)) (hfr hl a ha)⟩
    · go_wp2_with fail
      exact ⟨hF.1, Below.refl _ _⟩
  · intro vs w2 hp hF
    obtain ⟨A, c, e9, hi, hfr⟩ := hF 9 (by decide)
    have e10 : vs 10 = .int .i64 y := hF 10 (by decide)
    have e11 : vs 11 = .bool ov := hF 11 (by decide)
    have e12 : vs 12 = .int .i64 0 := hF 12 (by decide)
    simp [stL, Act.put, e9, e10, e11, e12]
    generalize vs 2 = v2
    generalize vs 7 = v7
    generalize vs 8 = v8
    generalize vs 0 = v0
    generalize vs 1 = v1
    generalize vs 3 = v3
    generalize vs 4 = v4
    generalize vs 5 = v5
    generalize vs 6 = v6
    have HPP := Lib.hid hp
    have HI := Lib.hid hi
    clear hF e9 e10 e11 e12 hp hi
    go_wp2_with fail
    refine bodyPost_ret (results_tmp4 rfl _ _ _) rfl ?_
    exact ⟨A, c, by rw [HY.out]; rfl, HI.out, hfr, PN.out.old _ HPP.out.1⟩
end Go.Proofs.Ytgabfdappeakiaa
end
section
/- The walks of total, Values and Step of the reference of layer 22, for valid networks, states and inputs. -/
set_option linter.unusedVariables false
set_option linter.unusedSimpArgs false
namespace Go.Proofs.Ytgabfdappeakiaa
open Go.RowKit

set_option maxHeartbeats 1000000 in
theorem r22_total (B VA : Option Addr) (bc vn vc : Nat) (ts : List (Int × Int)) (vs : List Int) (w : World) (hT : TermsAt w B ts) (hV : Ints w VA vs) (hvn : vs.length = vn) (h9 : vn ≤ 1000000) (h64 : ts.length ≤ 64)
    (ht : ∀ t ∈ ts, (0 ≤ t.1 ∧ t.1 < (vn : Int)) ∧ -8388608 ≤ t.2 ∧ t.2 ≤ 8388608) (hv : ∀ v ∈ vs, -8388608 ≤ v ∧ v ≤ 8388608) :
    Calls Try.prog 57 #[.agg #[.slice B ts.length bc], .slice VA vn vc] w fun e w' => e = .returned (.int .i64 (sumT ts vs ts.length)) ∧ Below w.heap.size w w' := by
  have HT := Lib.hid hT
  have HV := Lib.hid hV
  have HVN := Lib.hid hvn
  have HTE := Lib.hid ht
  have HVB := Lib.hid hv
  have hal := (Below.refl w.heap.size w).alloc (Nat.le_refl _) (.cells #[.slice B ts.length bc] 58)
  have HAL := Lib.hid hal
  have BX : Hid (∀ w', Below (w.heap.size + 1) (w.alloc (.cells #[.slice B ts.length bc] 58)) w' → w'.cell? ⟨w.heap.size, 0, none⟩ = some (.slice B ts.length bc)) := fun w' h => (h.cell (Nat.lt_succ_self _)).trans (by simp [go_sem])
  clear hT hV hvn ht hv hal
  go_enter Try.func57, Try.ntmps57
  go_wp2_with fail
  go_loopw [5, 6] (fun u i wr => ∃ j : Nat, j ≤ ts.length ∧ i = .int .i64 j ∧ u = .int .i64 (sumT ts vs j) ∧ Hid (Below (w.heap.size + 1) (w.alloc (.cells #[.slice B ts.length bc] 58)) wr)) (fun _ i _ => ts.length - (intOf i).toNat)
  case atStart => exact ⟨0, Nat.zero_le _, rfl, rfl, Below.refl _ _⟩
  case round =>
    obtain ⟨j, hj, rfl, rfl, HB⟩ := hrel
    have z0 := BX.out _ HB.out
    by_cases hltj : j < ts.length
    · obtain ⟨tm, htm⟩ : ∃ tm, ts[j]? = some tm := ⟨_, List.getElem?_eq_getElem hltj⟩
      have hbw := below_net2 HB.out
      obtain ⟨a2, rfl, hb2, ct0, ct1, i1, i2⟩ := (HT.out.grow hbw) j tm htm
      obtain ⟨⟨f1, f2⟩, f3, f4⟩ := HTE.out tm (List.mem_of_getElem? htm)
      obtain ⟨f, cv⟩ := tm
      simp only at ct0 ct1 i1 i2 f1 f2 f3 f4
      obtain ⟨q, rfl⟩ : ∃ q : Nat, f = (q : Int) := ⟨f.toNat, by omega⟩
      obtain ⟨av, z, rfl, hbv, hz, hcz, -, -⟩ := (HV.out.grow hbw).at_ (k := q) (by rw [HVN.out]; omega)
      obtain ⟨s1, s2, s3⟩ := sum_step (fun t ht => (HTE.out t ht).2) HVB.out h64 htm (atF_nat hz)
      have HS1 := Lib.hid s1
      have x2 : (0 : Int) ≤ (j : Int) := by omega
      have x3 : (j : Int) < (ts.length : Int) := by omega
      have x4 : (q : Int) < (vn : Int) := by omega
      clear htm i1 i2 s1 hz f1 f2 f3 f4 hbw
      go_wp2_with fail
      go_quiet (fail)
      go_wp2_with fail
      go_roundw
      case rel => exact ⟨j + 1, by omega, by go_num, by rw [HS1.out], below_drewN HB.out _⟩
      case measure => simp [intOf]; omega
    · obtain rfl : j = ts.length := by omega
      go_wp2_with fail
      go_ret
      exact ⟨rfl, below_net2 HB.out⟩
theorem wordsB_true {d0 d1 d2 d3 : Int} {s : List Int} (h : ∀ v ∈ s, fitsW d0 d1 d2 d3 v = true) : wordsB d0 d1 d2 d3 s = true := by unfold wordsB; rw [List.all_eq_true]; exact h
set_option maxRecDepth 100000 in
set_option maxHeartbeats 2000000 in
theorem r22_Values (d0 d1 d2 d3 c0 c1 c2 c3 st out x : Int) (NA XA SA : Option Addr) (nc xc sn sc : Nat) (ns : List (List (Int × Int))) (nx s : List Int) (w : World) (hok : netB d0 d1 d2 d3 c0 c1 c2 c3 st ns nx out = true) (hN : NodesAt w NA ns) (hX : Ints w XA nx) (hS : Ints w SA s)
    (hsn : s.length = sn) (hst : (sn : Int) = st) (hfs : ∀ v ∈ s, fitsW d0 d1 d2 d3 v = true) (hfx : fitsW d0 d1 d2 d3 x = true) (h3 : ∀ ts ∈ ns, ts.length ≤ 9223372036854775807) :
    Calls Try.prog 49 #[netV d0 d1 d2 d3 c0 c1 c2 c3 st NA ns.length nc XA nx.length xc out, .slice SA sn sc, .int .i64 x] w (RetVals3 w (valsF d0 d1 d2 d3 c1 ns (x :: s) ns.length) (overF d0 d1 d2 d3 c1 ns (x :: s) ns.length)) := by
  subst hst
  obtain ⟨p1, p2, p3, p4, p5, p6, -, -⟩ := netB_parts hok
  obtain ⟨q1, q2⟩ := fits_23 hfx
  have HXI : Hid (I64 x) := ⟨by omega, by omega⟩
  have hn9 : ns.length ≤ 9223372036854775807 := by omega
  have hx9 : nx.length ≤ 9223372036854775807 := by omega
  have hI : I64 (sn : Int) := ⟨by omega, by omega⟩
  have CV : Hid (∀ w1, NodesAt w1 NA ns → Ints w1 XA nx → Calls Try.prog 27 #[netV d0 d1 d2 d3 c0 c1 c2 c3 sn NA ns.length nc XA nx.length xc out] w1 fun e w' => e = .returned (.bool true) ∧ Below w1.heap.size w1 w') := fun w1 a b => by
    have := r22_Valid d0 d1 d2 d3 c0 c1 c2 c3 sn out NA XA nc xc ns nx w1 a b hn9 hx9 h3 hI
    rw [hok] at this; exact this
  have CW : Hid (∀ w1, Ints w1 SA s → Calls Try.prog 31 #[wordV d0 d1 d2 d3, .slice SA sn sc] w1 fun e w' => e = .returned (.bool true) ∧ Below w1.heap.size w1 w') := fun w1 a => by
    have := rf_Words d0 d1 d2 d3 SA s sc w1 (by omega) a
    rw [wordsB_true hfs, hsn] at this; exact this
  have CF : Hid (∀ w1, Calls Try.prog 43 #[wordV d0 d1 d2 d3, .int .i64 x] w1 fun e w' => e = .returned (.bool true) ∧ Below w1.heap.size w1 w') := fun w1 => by
    have := rf_Fits d0 d1 d2 d3 x w1; rw [hfx] at this; exact this
  obtain ⟨xn, hxn⟩ : ∃ n, nx.length = n := ⟨_, rfl⟩
  obtain ⟨nn, hnn⟩ : ∃ n, ns.length = n := ⟨_, rfl⟩
  obtain ⟨P, HP0, PN0⟩ := netQ_mk w d0 d1 d2 d3 c0 c1 c2 c3 (sn : Int) NA ns ns.length nc XA nx nx.length xc out hN hX
  rw [hxn, hnn] at HP0 PN0 CV
  unfold netV at CV ⊢
  rw [hnn, hxn]
  rw [hnn] at p4
  have HLEN : Hid (∀ k, k ≤ nn → (valsF d0 d1 d2 d3 c1 ns (x :: s) k).length = 1 + sn + k) := fun k hk => by rw [valsF_length _ _ _ _ _ _ _ k (by omega), List.length_cons, hsn]; omega
  have HB : Hid (∀ k, ∀ v ∈ valsF d0 d1 d2 d3 c1 ns (x :: s) k, -8388608 ≤ v ∧ v ≤ 8388608) := fun k v hv => fits_23 (valsF_fits p1 (fits_cons hfx hfs) k v hv)
  have HP := Lib.hid HP0
  have PN := Lib.hid PN0
  have HTS := Lib.hid p6
  have HS := Lib.hid hS
  have HSN := Lib.hid hsn
  have HNN := Lib.hid hnn
  have hs64 : sn ≤ 64 := by omega
  clear HP0 PN0 hnn hxn hN hX hS hfs hfx hsn p5 p1 p2 p3 p6 hok h3 hn9 hx9 hI q1 q2
  go_enter Try.func49, Try.ntmps49
  go_wp2_with (first
    | (go_at_call 27; with_reducible refine (CV.out _ (PN.out.nodes _ HP.out) (PN.out.next _ HP.out)).mono ?_; rintro e w1 ⟨rfl, hb1⟩; have hp1 := PN.out.go1 HP.out hb1; obtain ⟨a1, a2, a3, a4⟩ := PN.out.dat _ hp1; obtain ⟨b1, b2, b3, b4⟩ := PN.out.res _ hp1; have hl1 := PN.out.lt _ hp1)
    | (go_at_call 31; with_reducible refine (CW.out _ (HS.out.grow (PN.out.old _ hp1))).mono ?_; rintro e w2 ⟨rfl, hb2⟩; have hp2 := PN.out.go1 hp1 hb2; obtain ⟨a1, a2, a3, a4⟩ := PN.out.dat _ hp2)
    | (go_at_call 43; with_reducible refine (CF.out _).mono ?_; rintro e w3 ⟨rfl, hb3⟩; have hp3 := PN.out.go1 hp2 hb3; have hs3 := PN.out.lt _ hp3; have ho4 := (Own.single (w := w3) HXI.out).base hs3; have hp4 := PN.out.al hp3 (.cells #[.int .i64 x] 3); have hs4 := PN.out.lt _ hp4; have hi4 := HS.out.grow (PN.out.old _ hp4))
    | (at_builtin; refine app_intsN _ rfl _ _ rfl (w.heap.size + 1) (m := s) rfl rfl HSN.out ho4 hi4 (by simp; omega) hs4 ?_; intro v5 w5 hown5 hb5; have hp5 := PN.out.go _ _ hp4 hb5; obtain ⟨b1, b2, b3, b4⟩ := PN.out.res _ hp5))
  have HO5 : Hid (Own (w.heap.size + 1) w5 v5 (valsF d0 d1 d2 d3 c1 ns (x :: s) 0)) := hown5
  have HP5 := Lib.hid hp5
  clear a1 a2 a3 a4 b1 b2 b3 b4 hp5 hown5 hb5 hp4 hs4 hi4 ho4 hp3 hs3 hb3 hp2 hb2 hp1 hb1 hl1
  go_loopw [9, 10, 11] (fun v o i wr => ∃ k : Nat, k ≤ nn ∧ i = .int .i64 k ∧ o = .bool (overF d0 d1 d2 d3 c1 ns (x :: s) k) ∧ Hid (Own (w.heap.size + 1) wr v (valsF d0 d1 d2 d3 c1 ns (x :: s) k)) ∧ P wr) (fun _ _ i _ => nn - (intOf i).toNat)
  case atStart => exact ⟨0, Nat.zero_le _, rfl, rfl, HO5, HP5.out⟩
  case round =>
    obtain ⟨k, hk, rfl, rfl, HO, hp⟩ := hrel
    have hlw := PN.out.lt _ hp
    obtain ⟨b1, b2, b3, b4⟩ := PN.out.res _ hp
    by_cases hlt : k < nn
    · obtain ⟨ts, hts⟩ : ∃ ts, ns[k]? = some ts := ⟨_, List.getElem?_eq_getElem (by rw [HNN.out]; exact hlt)⟩
      obtain ⟨ad, B, bc, rfl, hba, cn, hT⟩ := PN.out.nodes _ hp k ts hts
      obtain ⟨hl64, hterms⟩ := HTS.out k ts hts
      obtain ⟨vs, hvs⟩ : ∃ vs, valsF d0 d1 d2 d3 c1 ns (x :: s) k = vs := ⟨_, rfl⟩
      have hsucc := valsF_succ (d0 := d0) (d1 := d1) (d2 := d2) (d3 := d3) (c1 := c1) (x := x :: s) hts
      have hover := overF_succ (d0 := d0) (d1 := d1) (d2 := d2) (d3 := d3) (c1 := c1) (x := x :: s) hts
      have hvl := HLEN.out k (by omega)
      have hvb := HB.out k
      rw [hvs] at hsucc hover hvl hvb HO
      obtain ⟨ov, hov⟩ : ∃ ov, overF d0 d1 d2 d3 c1 ns (x :: s) k = ov := ⟨_, rfl⟩
      rw [hov] at hover ⊢
      obtain ⟨U, hU⟩ : ∃ U, nodeV d2 c1 vs ts = U := ⟨_, rfl⟩
      have hU2 : shiftF (sumT ts vs ts.length) c1 d2 = U := hU
      rw [hU] at hsucc hover
      have HSUCC := Lib.hid hsucc
      have HOVER := Lib.hid hover
      obtain ⟨VA, vcap, e9, hcap, hIV⟩ := HO.out.form
      subst e9
      have hsi := sum_i64 (fun t ht => (hterms t ht).2) hvb hl64
      have hvls : vs.length < 100000000 := by omega
      have hv9 : vs.length ≤ 1000000 := by omega
      have FT : Hid (∀ n : Ext wr, Calls Try.prog 57 #[.agg #[.slice B ts.length bc], .slice VA vs.length vcap] n.to fun e w' => e = .returned (.int .i64 (sumT ts vs ts.length)) ∧ Below n.to.heap.size n.to w') := fun n =>
        r22_total B VA bc vs.length vcap ts vs n.to (hT.grow n.below) (hIV.grow n.below) rfl hv9 hl64 (fun t ht => ⟨⟨((hterms t ht).1).1, by rw [hvl]; have := ((hterms t ht).1).2; push_cast; omega⟩, (hterms t ht).2⟩) hvb
      obtain ⟨vn, hvn⟩ : ∃ vn, vs.length = vn := ⟨_, rfl⟩
      rw [hvn] at HO FT hcap ⊢
      have HVN := Lib.hid hvn
      have FS : Hid (∀ w, Calls Try.prog 56 #[.int .i64 (sumT ts vs ts.length), .int .i64 c1, .int .i64 d2] w fun e w' => e = .returned (.int .i64 U) ∧ Below w.heap.size w w') := Lib.hid (fun w => by have := rf_Shift (sumT ts vs ts.length) c1 d2 w hsi; rw [hU2] at this; exact this)
      obtain ⟨R, hR⟩ : ∃ R, reduceW d0 d1 d2 d3 U = R := ⟨_, rfl⟩
      have hR23 : -8388608 ≤ R ∧ R ≤ 8388608 := HB.out (k + 1) R (by rw [HSUCC.out, ← hR]; simp)
      have FR : Hid (∀ w, Calls Try.prog 58 #[wordV d0 d1 d2 d3, .int .i64 U] w fun e w' => e = .returned (.int .i64 R) ∧ Below w.heap.size w w') := Lib.hid (fun w => by have := rf_Reduce d0 d1 d2 d3 U w; rw [hR] at this; exact this)
      have HR := Lib.hid hR
      obtain ⟨fu, hfu⟩ : ∃ fu, fitsW d0 d1 d2 d3 U = fu := ⟨_, rfl⟩
      have FF : Hid (∀ w, Calls Try.prog 43 #[wordV d0 d1 d2 d3, .int .i64 U] w fun e w' => e = .returned (.bool fu) ∧ Below w.heap.size w w') := Lib.hid (fun w => by have := rf_Fits d0 d1 d2 d3 U w; rw [hfu] at this; exact this)
      have HFU := Lib.hid hfu
      have y1 : (0 : Int) ≤ (k : Int) := by omega
      have y2 : (k : Int) < (nn : Int) := by omega
      have HRI : Hid (I64 R) := ⟨by omega, by omega⟩
      have HPP := Lib.hid hp
      have xc1 : ∀ n : Ext wr, n.to.cell? ⟨w.heap.size, 9, none⟩ = some (.slice (some ad) nn nc) := fun n => ((n.below.cell (by show w.heap.size < _; omega)).trans b2)
      have xc2 : ∀ n : Ext wr, n.to.cell? (ad.add k) = some (.slice B ts.length bc) := fun n => (n.below.cell (by rw [block_add]; exact hba)).trans cn
      have xc3 : ∀ n : Ext wr, n.to.cell? ⟨w.heap.size, 5, none⟩ = some (.int .i64 c1) := fun n => ((n.below.cell (by show w.heap.size < _; omega)).trans (PN.out.coe _ hp).2.1)
      have xc4 : ∀ n : Ext wr, n.to.cell? ⟨w.heap.size, 2, none⟩ = some (.int .i64 d2) := fun n => ((n.below.cell (by show w.heap.size < _; omega)).trans (PN.out.dat _ hp).2.2.1)
      have X1 := Lib.hid xc1
      have X2 := Lib.hid xc2
      have X3 := Lib.hid xc3
      have X4 := Lib.hid xc4
      have hvls : vn < 100000000 := by omega
      clear hp hT hts hsucc hover hvl hvb hterms hvs hov hU hU2 hIV hsi xc1 xc2 xc3 xc4 hR hfu hvn hR23 hcap
      clear hv9
      go_wp2_with fail
      clear cn b1 b2 b3 b4
      have xc1 := X1.out
      have xc2 := X2.out
      have xc3 := X3.out
      have xc4 := X4.out
      refine wp_region_ext (by kernel_rfl) (by kernel_rfl) ?_
      repeat (go_big_quiet_step (first
        | (go_at_call 57; exact ext_below (FT.out _))
        | (go_at_call 56; exact ext_below (FS.out _))))
      refine wpQuiet_nil ?_
      rintro _ ⟨⟨w6, hb6⟩, rfl⟩
      clear xc1 xc2 xc3 xc4
      have hp6 := PN.out.go1 HPP.out hb6
      obtain ⟨a1, a2, a3, a4⟩ := PN.out.dat _ hp6
      have ho6 := HO.out.grow hb6
      have hl6 := PN.out.lt _ hp6
      rcases ov with _ | _
      · go_wp2_with (first
          | (go_at_call 43; with_reducible refine (FF.out _).mono ?_; rintro e w7 ⟨rfl, hb7⟩; have hp7 := PN.out.go1 hp6 hb7; obtain ⟨a1, a2, a3, a4⟩ := PN.out.dat _ hp7; have ho7 := ho6.grow hb7)
          | (go_at_call 58; with_reducible refine (FR.out _).mono ?_; rintro e w8 ⟨rfl, hb8⟩; have hp8 := PN.out.go1 hp7 hb8; have ho8 := ho7.grow hb8; have hs8 := PN.out.lt _ hp8)
          | (at_builtin; refine app_int w8 rfl _ _ rfl (w.heap.size + 1) ho8 rfl rfl (by rw [HVN.out]; exact hvls) hs8 (y := R) HRI.out ?_; intro v9 w9 ho9 hb9; have hp9 := PN.out.go _ _ hp8 hb9))
        go_roundw
        case rel => exact ⟨k + 1, by omega, by go_num, by rw [HOVER.out, HFU.out]; rfl, by rw [HSUCC.out, HR.out]; exact ho9, hp9⟩
        case measure => simp [intOf]; omega
      · go_wp2_with (first
          | (go_at_call 58; with_reducible refine (FR.out _).mono ?_; rintro e w8 ⟨rfl, hb8⟩; have hp8 := PN.out.go1 hp6 hb8; have ho8 := ho6.grow hb8; have hs8 := PN.out.lt _ hp8)
          | (at_builtin; refine app_int w8 rfl _ _ rfl (w.heap.size + 1) ho8 rfl rfl (by rw [HVN.out]; exact hvls) hs8 (y := R) HRI.out ?_; intro v9 w9 ho9 hb9; have hp9 := PN.out.go _ _ hp8 hb9))
        go_roundw
        case rel => exact ⟨k + 1, by omega, by go_num, by rw [HOVER.out]; rfl, by rw [HSUCC.out, HR.out]; exact ho9, hp9⟩
        case measure => simp [intOf]; omega
    · have hkk : k = nn := by omega
      subst hkk
      have HPP := Lib.hid hp
      clear hp
      go_wp2_with fail
      go_ret3
      obtain ⟨A, c, rfl, -, hi⟩ := HO.out.form
      exact ⟨A, c, rfl, hi, PN.out.old _ HPP.out⟩
end Go.Proofs.Ytgabfdappeakiaa
end
section
/- The walk of Step of the reference of layer 22, for valid networks, states and inputs. -/
set_option linter.unusedVariables false
set_option linter.unusedSimpArgs false
namespace Go.Proofs.Ytgabfdappeakiaa
open Go.RowKit

theorem follow_snoc {nx vs : List Int} {k : Nat} {y : Int} (h : nx[k]? = some y) : (nx.take (k + 1)).map (atF vs) = (nx.take k).map (atF vs) ++ [atF vs y] := by
  rw [take_snoc' h, List.map_append]; rfl
set_option maxRecDepth 100000 in
set_option maxHeartbeats 2000000 in
theorem r22_Step (d0 d1 d2 d3 c0 c1 c2 c3 st out x : Int) (NA XA SA : Option Addr) (nc xc sn sc : Nat) (ns : List (List (Int × Int))) (nx s : List Int) (w : World) (hok : netB d0 d1 d2 d3 c0 c1 c2 c3 st ns nx out = true) (hN : NodesAt w NA ns) (hX : Ints w XA nx) (hS : Ints w SA s)
    (hsn : s.length = sn) (hst : (sn : Int) = st) (hfs : ∀ v ∈ s, fitsW d0 d1 d2 d3 v = true) (hfx : fitsW d0 d1 d2 d3 x = true) (h3 : ∀ ts ∈ ns, ts.length ≤ 9223372036854775807) :
    Calls Try.prog 33 #[netV d0 d1 d2 d3 c0 c1 c2 c3 st NA ns.length nc XA nx.length xc out, .slice SA sn sc, .int .i64 x] w
      (RetStep w (followF nx (valsF d0 d1 d2 d3 c1 ns (x :: s) ns.length)) (atF (valsF d0 d1 d2 d3 c1 ns (x :: s) ns.length) out) (overF d0 d1 d2 d3 c1 ns (x :: s) ns.length)) := by
  subst hst
  obtain ⟨p1, p2, p3, p4, p5, p6, p7, p8, p9⟩ := netB_parts hok
  have hvl := vals_at (x := x) hok (by rw [hsn])
  have hvb : ∀ v ∈ valsF d0 d1 d2 d3 c1 ns (x :: s) ns.length, -8388608 ≤ v ∧ v ≤ 8388608 := fun v hv => fits_23 (valsF_fits p1 (fits_cons hfx hfs) _ v hv)
  have CV : Hid (∀ w1, NodesAt w1 NA ns → Ints w1 XA nx → Ints w1 SA s → Calls Try.prog 49 #[netV d0 d1 d2 d3 c0 c1 c2 c3 sn NA ns.length nc XA nx.length xc out, .slice SA sn sc, .int .i64 x] w1
      fun e w' => ∃ A c, e = .returned (.tuple #[.slice A (1 + sn + ns.length) c, .bool (overF d0 d1 d2 d3 c1 ns (x :: s) ns.length), .int .i64 0]) ∧ Ints w' A (valsF d0 d1 d2 d3 c1 ns (x :: s) ns.length) ∧ Below w1.heap.size w1 w') := fun w1 a b c => by
    have := r22_Values d0 d1 d2 d3 c0 c1 c2 c3 sn out x NA XA SA nc xc sn sc ns nx s w1 hok a b c hsn rfl hfs hfx h3
    refine this.mono ?_
    rintro e w2 ⟨A, c, rfl, hi, hb⟩
    exact ⟨A, c, by rw [hvl, hsn], hi, hb⟩
  obtain ⟨P, HP0, PN0⟩ := netQ_mk w d0 d1 d2 d3 c0 c1 c2 c3 (sn : Int) NA ns ns.length nc XA nx nx.length xc out hN hX
  obtain ⟨q, rfl⟩ : ∃ q : Nat, out = (q : Int) := ⟨out.toNat, by omega⟩
  have HQ : Hid (q < 1 + sn + ns.length) := by show _ < _; omega
  have HVL : Hid ((valsF d0 d1 d2 d3 c1 ns (x :: s) ns.length).length = 1 + sn + ns.length) := by rw [hsn] at hvl; exact hvl
  have HIN : Hid (∀ v ∈ nx, 0 ≤ v ∧ v < ((1 + sn + ns.length : Nat) : Int)) := fun v hv => by have := p7 v hv; push_cast; omega
  obtain ⟨vs, hvs⟩ : ∃ vs, valsF d0 d1 d2 d3 c1 ns (x :: s) ns.length = vs := ⟨_, rfl⟩
  obtain ⟨ov, hov⟩ : ∃ ov, overF d0 d1 d2 d3 c1 ns (x :: s) ns.length = ov := ⟨_, rfl⟩
  rw [hvs] at HVL hvb
  rw [hvs, hov] at CV
  rw [hvs, hov]
  obtain ⟨xn, hxn⟩ : ∃ n, nx.length = n := ⟨_, rfl⟩
  obtain ⟨nn, hnn⟩ : ∃ n, ns.length = n := ⟨_, rfl⟩
  rw [hxn, hnn] at HP0 PN0 CV
  rw [hnn] at HQ HVL HIN
  rw [hxn] at p5
  unfold netV at CV ⊢
  rw [hnn, hxn]
  obtain ⟨vn, hvn⟩ : ∃ vn, 1 + sn + nn = vn := ⟨_, rfl⟩
  rw [hvn] at CV HQ HVL HIN
  have hx64 : xn ≤ 64 := by omega
  have hse : sn = xn := by omega
  subst hse
  have HP := Lib.hid HP0
  have PN := Lib.hid PN0
  have HS := Lib.hid hS
  have HXN := Lib.hid hxn
  have HVB := Lib.hid hvb
  clear HP0 PN0 hnn hxn hN hX hS hfs hfx hsn hvs hov hok p1 p2 p3 p4 p5 p6 p7 p8 p9 h3 hvl hvn hvb
  go_enter Try.func33, Try.ntmps33
  go_wp2_with (first
    | (go_at_call 49; with_reducible refine (CV.out _ (PN.out.nodes _ HP.out) (PN.out.next _ HP.out) (HS.out.grow (PN.out.old _ HP.out))).mono ?_; rintro e w1 ⟨VA, vc, rfl, hi1, hb1⟩; have hp1 := PN.out.go1 HP.out hb1))
  have HP1 := Lib.hid hp1
  have HI1 := Lib.hid hi1
  clear hb1 hp1 hi1
  go_loopw [13, 14] (fun v i wr => ∃ k : Nat, k ≤ sn ∧ i = .int .i64 k ∧ Hid (Own w1.heap.size wr v ((nx.take k).map (atF vs))) ∧ Hid (Below w1.heap.size w1 wr)) (fun _ i _ => sn - (intOf i).toNat)
  case atStart => exact ⟨0, Nat.zero_le _, rfl, Own.nil, Below.refl _ _⟩
  case round =>
    obtain ⟨k, hk, rfl, HO, HB⟩ := hrel
    have hp := PN.out.go1 HP1.out HB.out
    obtain ⟨b1, b2, b3, b4⟩ := PN.out.res _ hp
    have hlw := PN.out.lt _ hp
    have hV := HI1.out.grow HB.out
    by_cases hlt : k < sn
    · obtain ⟨ad, y, rfl, hba, hy, hcy, -, -⟩ := (PN.out.next _ hp).at_ (k := k) (by rw [HXN.out]; exact hlt)
      obtain ⟨v1, v2⟩ := HIN.out y (List.mem_of_getElem? hy)
      obtain ⟨j, rfl⟩ : ∃ j : Nat, y = (j : Int) := ⟨y.toNat, by omega⟩
      obtain ⟨av, z, rfl, hbv, hz, hcz, z1, z2⟩ := hV.at_ (k := j) (by rw [HVL.out]; omega)
      have HS := Lib.hid (follow_snoc (vs := vs) hy)
      rw [atF_nat hz] at HS
      have HIZ : Hid (I64 z) := ⟨z1, z2⟩
      have hlen : ((nx.take k).map (atF vs)).length < 100000000 := by simp; omega
      have x1 : (0 : Int) ≤ (k : Int) := by omega
      have x2 : (k : Int) < (sn : Int) := by omega
      have hbase := HB.out.size
      clear hp hV hy hz z1 z2
      go_wp2_with (at_builtin; refine app_int wr rfl _ _ rfl w1.heap.size HO.out rfl rfl hlen hbase HIZ.out ?_; intro v4 w4 ho4 hb4; have hp4 := PN.out.go1 HP1.out (HB.out.trans hb4); obtain ⟨b1, b2, b3, b4⟩ := PN.out.res _ hp4)
      go_roundw
      case rel => exact ⟨k + 1, by omega, by go_num, by rw [HS.out]; exact ho4, HB.out.trans hb4⟩
      case measure => simp [intOf]; omega
    · have hkk : k = sn := by omega
      subst hkk
      obtain ⟨av, y, rfl, hbv, hyv, hcv, -, -⟩ := hV.at_ (k := q) (by rw [HVL.out]; exact HQ.out)
      have HY : Hid (atF vs (q : Int) = y) := atF_nat hyv
      obtain ⟨A, c, e13, hcap, -⟩ := HO.out.form
      subst e13
      have HFL : Hid ((nx.take k).map (atF vs) = followF nx vs) := by rw [← HXN.out, List.take_length]; rfl
      rw [HFL.out] at HO ⊢
      have x1 : (0 : Int) ≤ (q : Int) := by omega
      have x2 : (q : Int) < (vn : Int) := by have := HQ.out; omega
      clear hp hV hyv hcap
      go_wp2_with fail
      go_quiet (fail)
      go_wp2_with fail
      refine bodyPost_ret (results_tmp4 rfl _ _ _) rfl ?_
      have hb := below_drewN HB.out
      obtain ⟨A', c', e', -, hi⟩ := HO.out.form
      injection e' with e1 e2 e3
      subst e1
      exact ⟨A, c, by rw [HY.out]; rfl, hi.grow (below_drewN (Below.refl _ _) _), fun _ a ha => by subst ha; have := (HO.out.1.lt a.block rfl).1; have := PN.out.lt _ HP1.out; omega, PN.out.old _ (PN.out.go1 HP1.out (hb _))⟩
end Go.Proofs.Ytgabfdappeakiaa
end
