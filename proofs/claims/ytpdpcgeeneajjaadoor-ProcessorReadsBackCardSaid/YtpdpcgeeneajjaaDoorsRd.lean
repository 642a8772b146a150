/- slices.Chunk; Decode of package processor. -/
import Derived.Test.YtpdpcgeeneajjaaDoorsRz
import Derived.Test.YtpdpcgeeneajjaaDoorsRr
import Derived.Sort.CutIn
import Derived.Lib.EndianBits
import Derived.Maps.AppendAt
import Derived.Deep.RegionHeld3
set_option linter.unusedVariables false
set_option linter.unusedSimpArgs false
namespace Go.Proofs.YtpdpcgeeneajjaaDoor
open Go.RowKit Go.Shelf
attribute [local go_sem] Oper.semAt_some
def KpC (Bs Bn : Nat) (W W' : World) : Prop := (∀ v, W.cell? ⟨Bs, 0, none⟩ = some v → W'.cell? ⟨Bs, 0, none⟩ = some v) ∧ ∀ v, W.cell? ⟨Bn, 0, none⟩ = some v → W'.cell? ⟨Bn, 0, none⟩ = some v
theorem KpC.t {Bs Bn : Nat} {A B C : World} (h : KpC Bs Bn A B) (k : KpC Bs Bn B C) : KpC Bs Bn A C := ⟨fun v hv => k.1 v (h.1 v hv), fun v hv => k.2 v (h.2 v hv)⟩
theorem cell_putObj {W : World} {b l : Nat} {o o' : Obj} {v : Value} (h : W.heap[l]? = some o) (ho : o.isCells = false) (hc : W.cell? ⟨b, 0, none⟩ = some v) : (W.putObj l o').cell? ⟨b, 0, none⟩ = some v :=
  cell_kept hc (grownBy_putObj' W l o') (fun r e => by cases e; exact ⟨o, h, ho⟩)
theorem KpC.b {Bs Bn : Nat} (W : World) (l : Nat) (o o' : Obj) (h : W.heap[l]? = some o) (ho : o.isCells = false) : KpC Bs Bn W (W.putObj l o') := ⟨fun _ hv => cell_putObj h ho hv, fun _ hv => cell_putObj h ho hv⟩
theorem fin_take {m k : Nat} (hk : k < m) : (List.finRange m).take (k + 1) = (List.finRange m).take k ++ [⟨k, hk⟩] := by
  rw [List.take_add_one]
  have : (List.finRange m)[k]? = some ⟨k, hk⟩ := by
    rw [List.getElem?_eq_getElem (by simpa using hk)]
    simp
  rw [this]; rfl
set_option maxRecDepth 100000 in
set_option maxHeartbeats 2000000 in
theorem chunk1_in (n : Nat) (hn : 1 ≤ n) (l Bs Bn m N c : Nat) (ad : Addr) (hN : N = 8 * m) (hN4 : N ≤ 4096) (hNc : N ≤ c) (J Jx : List (Fin m) → World → Prop)
    (hY : ∀ pre (x : Fin m) W, J pre W → pre.length < m → YieldAt Fence.wide (n - 1) Tryd.prog l #[.slice (some (ad.add (8 * x.val))) 8 8] W fun e W' =>
      (e = .returned (.bool true) ∧ J (pre ++ [x]) W' ∧ KpC Bs Bn W W') ∨ (e = .returned (.bool false) ∧ Jx (pre ++ [x]) W'))
    (hJd : ∀ pre w, J pre w → J pre w.drew)
    (W : World) (hs : W.cell? ⟨Bs, 0, none⟩ = some (.slice (some ad) N c)) (h8 : W.cell? ⟨Bn, 0, none⟩ = some (.int .i64 8)) (h0 : J [] W) :
    CallsIn Fence.wide n Tryd.prog 40 #[.func (.yield l) #[] #[], .pointer (some ⟨Bs, 0, none⟩), .pointer (some ⟨Bn, 0, none⟩)] W fun e W' => (∃ v, e = .returned v) ∧
      ((∃ ys, ys = List.finRange m ∧ J ys W') ∨ (∃ pre, (∃ k, k ≤ m ∧ pre = (List.finRange m).take k) ∧ Jx pre W')) := by
  refine callsIn_of_wp Tryd.func40 rfl trivial ?_ rfl
  simp only [Tryd.ntmps40, List.size_toArray, List.length_cons, List.length_nil, Nat.reduceAdd, Nat.reduceSub, Array.replicate_succ, Array.replicate_zero, List.push_toArray, List.append_toArray, List.nil_append, List.cons_append]
  have HN := Lib.hid hN
  clear hN
  gi_wp2
  gi_loopw [4] (fun i wr => ∃ k q : Nat, k ≤ m ∧ i = .int .i64 (q : Int) ∧ Hid (q = 8 * k) ∧ J ((List.finRange m).take k) wr ∧ wr.cell? ⟨Bs, 0, none⟩ = some (.slice (some ad) N c) ∧ wr.cell? ⟨Bn, 0, none⟩ = some (.int .i64 8)) (fun i _ => N - (intOf i).toNat)
  case atStart => exact ⟨0, 0, Nat.zero_le _, rfl, Lib.hid rfl, by simpa using h0, hs, h8⟩
  case round =>
    obtain ⟨k, q, hk, rfl, HQ, hJ, hs, h8⟩ := hrel
    by_cases hlt : k < m
    · have hq8 : q + 8 ≤ N := by have := HQ.out; have := HN.out; omega
      have q1 : (q : Int) < (N : Int) := by omega
      have q0 : (0 : Int) ≤ (q : Int) := by omega
      have q2 : (q : Int) ≤ (N : Int) := by omega
      have q3 : (N : Int) ≤ (c : Int) := by omega
      have q4 : (8 : Int) ≤ (N : Int) - (q : Int) := by omega
      have hS0 : wr.drew.cell? ⟨Bs, 0, none⟩ = some (.slice (some ad) N c) ∧ wr.drew.cell? ⟨Bn, 0, none⟩ = some (.int .i64 8) := ⟨cell_b ((Below.refl _ _).drew) hs, cell_b ((Below.refl _ _).drew) h8⟩
      gi_upto_region 3 with fail
      refine wpIn_wide.2 ?_
      go_region_held3 (fun w' => w'.cell? ⟨Bs, 0, none⟩ = some (.slice (some ad) N c) ∧ w'.cell? ⟨Bn, 0, none⟩ = some (.int .i64 8)) (exact hS0) (fail)
      have hmin : min (8 : Int) ((N - q : Nat) : Int) = 8 := by omega
      rw [hmin]
      have wq : IntKind.i64.wrap ((q : Int) + 8) = ((q + 8 : Nat) : Int) := (IntWalk.i64_in _ (by omega)).trans (by omega)
      obtain ⟨p8, hp8⟩ : ∃ p, q + 8 = p := ⟨_, rfl⟩
      have hd8 : p8 - q = 8 := by omega
      have hd8' : (p8 : Int) - (q : Int) = 8 := by omega
      have q5 : (q : Int) ≤ (p8 : Int) := by omega
      have q6 : (p8 : Int) ≤ (c : Int) := by omega
      rw [hp8] at wq
      generalize (if c = q then some ad else some (ad.add q)) = X16
      have hs2 := hS0.1
      have h82 := hS0.2
      have hlen : ((List.finRange m).take k).length < m := by rw [List.length_take]; simp; omega
      obtain ⟨fn, tmps, assign, body, hy, hR⟩ := hY _ ⟨k, hlt⟩ wr.drew (hJd _ _ hJ) hlen
      dsimp only at hy
      rw [show 8 * k = q from HQ.out.symm] at hy
      gi_wp2
      refine hR.mono ?_
      rintro e W3 (⟨rfl, hJ3, hk3⟩ | ⟨rfl, hJx3⟩)
      · have hs3 := hk3.1 _ hs2
        have h83 := hk3.2 _ h82
        gi_wp2
        go_roundw
        case rel => exact ⟨k + 1, p8, by omega, rfl, Lib.hid (by have := HQ.out; omega), by rw [fin_take hlt]; exact hJ3, hs3, h83⟩
        case measure => simp [intOf]; omega
      · gi_wp2
        refine bodyPost_ret (results_none rfl _ _ _) rfl ?_
        exact ⟨⟨_, rfl⟩, .inr ⟨_, ⟨k + 1, by omega, (fin_take hlt).symm⟩, hJx3⟩⟩
    · obtain rfl : k = m := by omega
      have q1 : ¬ (q : Int) < (N : Int) := by have := HQ.out; have := HN.out; omega
      gi_wp2
      go_end0
      rw [List.take_of_length_le (by simp)] at hJ
      first
        | exact ⟨⟨_, rfl⟩, .inl ⟨_, rfl, hJ⟩⟩
        | exact ⟨⟨_, rfl⟩, .inl hJ⟩
set_option maxRecDepth 100000 in
set_option maxHeartbeats 2000000 in
theorem chunk0_in (n : Nat) (l Bs Bn c : Nat) (A : Option Addr) (J Jx : List (Fin 0) → World → Prop) (W : World) (hs : W.cell? ⟨Bs, 0, none⟩ = some (.slice A 0 c)) (h0 : J [] W) :
    CallsIn Fence.wide n Tryd.prog 40 #[.func (.yield l) #[] #[], .pointer (some ⟨Bs, 0, none⟩), .pointer (some ⟨Bn, 0, none⟩)] W fun e W' => (∃ v, e = .returned v) ∧
      ((∃ ys, ys = List.finRange 0 ∧ J ys W') ∨ (∃ pre, (∃ k, k ≤ 0 ∧ pre = (List.finRange 0).take k) ∧ Jx pre W')) := by
  refine callsIn_of_wp Tryd.func40 rfl trivial ?_ rfl
  simp only [Tryd.ntmps40, List.size_toArray, List.length_cons, List.length_nil, Nat.reduceAdd, Nat.reduceSub, Array.replicate_succ, Array.replicate_zero, List.push_toArray, List.append_toArray, List.nil_append, List.cons_append]
  gi_wp2
  gi_loopw [4] (fun i wr => i = .int .i64 0 ∧ J [] wr ∧ wr.cell? ⟨Bs, 0, none⟩ = some (.slice A 0 c)) (fun _ _ => 0)
  case atStart => exact ⟨rfl, h0, hs⟩
  case round =>
    obtain ⟨rfl, hJ, hs⟩ := hrel
    gi_wp2
    go_end0
    first
      | exact ⟨⟨_, rfl⟩, .inl ⟨_, rfl, by simpa using hJ⟩⟩
      | exact hJ
theorem chunk_in (n N c : Nat) (A : Option Addr) (w : World) :
    CallsIn Fence.wide n Tryd.prog 20 #[.slice A N c, .int .i64 8] w fun e w' => e = .returned (.func (.func 40) #[] #[.pointer (some ⟨w.heap.size, 0, none⟩), .pointer (some ⟨w.heap.size + 1, 0, none⟩)]) ∧ w' = (w.alloc (.cells #[.slice A N c] 22)).alloc (.cells #[.int .i64 8] 3) := by
  refine callsIn_of_wp Tryd.func20 rfl trivial ?_ rfl
  simp only [Tryd.ntmps20, List.size_toArray, List.length_cons, List.length_nil, Nat.reduceAdd, Nat.reduceSub, Array.replicate_succ, Array.replicate_zero, List.push_toArray, List.append_toArray, List.nil_append, List.cons_append]
  gi_wp2
  go_ret
  exact ⟨rfl, rfl⟩
theorem chunk_stops (n : Nat) (hn : 1 ≤ n) (Bs Bn m N c : Nat) (A : Option Addr) (hN : N = 8 * m) (hN4 : N ≤ 4096) (hNc : N ≤ c) (hA : 0 < N → ∃ ad, A = some ad) (w : World) (hBs : Bs < w.heap.size) (hBn : Bn < w.heap.size)
    (hs : w.cell? ⟨Bs, 0, none⟩ = some (.slice A N c)) (h8 : w.cell? ⟨Bn, 0, none⟩ = some (.int .i64 8)) :
    SeqStopsK Fence.wide n Tryd.prog 40 #[.pointer (some ⟨Bs, 0, none⟩), .pointer (some ⟨Bn, 0, none⟩)] (fun x : Fin m => #[.slice (A.map fun ad => ad.add (8 * x.val)) 8 8]) (KpC Bs Bn) (fun ys => ys = List.finRange m) (fun pre => ∃ k, k ≤ m ∧ pre = (List.finRange m).take k) m w := fun l J Jx W hW hJ _ hY h0 => by
  have hs' := (hW.cell (p := ⟨Bs, 0, none⟩) hBs).trans hs
  have h8' := (hW.cell (p := ⟨Bn, 0, none⟩) hBn).trans h8
  have hJd : ∀ pre w, J pre w → J pre w.drew := fun pre w h => hJ pre w _ none h (⟨rfl, rfl, rfl, Nat.le_refl _, fun _ _ _ => rfl⟩) (fun r e => by cases e)
  by_cases h0N : 0 < N
  · obtain ⟨ad, rfl⟩ := hA h0N
    exact chunk1_in n hn l Bs Bn m N c ad hN hN4 hNc J Jx hY hJd W hs' h8' h0
  · obtain rfl : m = 0 := by omega
    obtain rfl : N = 0 := by omega
    exact chunk0_in n l Bs Bn c A J Jx W hs' h0
def chI (l : List Int) (j : Nat) : Ins := eightI (l.getD (8 * j) 0) (l.getD (8 * j + 1) 0) (l.getD (8 * j + 2) 0) (l.getD (8 * j + 4) 0) (l.getD (8 * j + 5) 0) (l.getD (8 * j + 6) 0) (l.getD (8 * j + 7) 0)
def chG (l : List Int) (j : Nat) : Prop := l.getD (8 * j + 3) 0 = 0 ∧ (chI l j).formed = true
def chL (l : List Int) {m : Nat} (pre : List (Fin m)) : List Ins := pre.map fun x => chI l x.val
theorem getD_some {l : List Int} {k : Nat} {x : Int} (h : l[k]? = some x) : l.getD k 0 = x := by rw [List.getD_eq_getElem?_getD, h]; rfl
def DcI (w W0 : World) (A : Option Addr) (n c : Nat) (l : List Int) (m : Nat) (pre : List (Fin m)) (W : World) : Prop :=
  ((∃ v, Boxed W (w.heap.size + 1 + 1) 24 v ∧ W.ownsRow w.heap.size 50 4 v (chL l pre).length (((chL l pre).flatMap encI).map (Value.int .i64)) ∧ True) ∧
    Boxed W w.heap.size 24 (.slice none 0 0) ∧ Boxed W (w.heap.size + 1) 25 (.int .i64 0) ∧ Boxed W W0.heap.size 22 (.slice A n c) ∧ Boxed W (W0.heap.size + 1) 3 (.int .i64 8)) ∧
  (∀ x ∈ pre, chG l x.val) ∧ Below w.heap.size w W
def DcX (w : World) (l : List Int) (m : Nat) (cc : Code) (pre : List (Fin m)) (W : World) : Prop :=
  (Boxed W w.heap.size 24 (.slice none 0 0) ∧ Boxed W (w.heap.size + 1) 25 (.int .i64 21)) ∧ (cc = .ret ∧ ∃ x ∈ pre, ¬ chG l x.val) ∧ Below w.heap.size w W
theorem DcI_own {w W0 : World} {A : Option Addr} {n c : Nat} {l : List Int} {m B : Nat} (hB : w.heap.size ≤ B) : OwnFrom B (DcI w W0 A n c l m) :=
  OwnFrom.and (OwnFrom.and (Own.from (holdsRow_own w.heap.size (w.heap.size + 1 + 1) 24 50 4 (fun pre => (chL l pre).length) (fun pre => ((chL l pre).flatMap encI).map (Value.int .i64)) (fun _ _ => True)) _)
    (OwnFrom.and (Own.from (boxed_own _ _ fun _ => .slice none 0 0) _) (OwnFrom.and (Own.from (boxed_own _ _ fun _ => .int .i64 0) _) (OwnFrom.and (Own.from (boxed_own _ _ fun _ => .slice A n c) _) (Own.from (boxed_own _ _ fun _ => .int .i64 8) _)))))
    (OwnFrom.and (ownFrom_pure _ _) (ownFrom_below (Nat.le_refl _) hB))
theorem DcX_own {w : World} {l : List Int} {m B : Nat} (hB : w.heap.size ≤ B) (cc : Code) : OwnFrom B (DcX w l m cc) :=
  OwnFrom.and (OwnFrom.and (Own.from (boxed_own _ _ fun _ => .slice none 0 0) _) (Own.from (boxed_own _ _ fun _ => .int .i64 21) _)) (OwnFrom.and (ownFrom_pure _ _) (ownFrom_below (Nat.le_refl _) hB))
theorem keepsO_below {W W' : World} (h : Below W.heap.size W W') : KeepsOthers W W' := ⟨h.size, fun k o hk _ => (h.block k (Array.getElem?_eq_some_iff.1 hk).1).trans hk⟩
theorem boxed_below {W W' : World} {B : Nat} {t : TypeId} {v : Value} (h : Boxed W B t v) (hb : Below W.heap.size W W') : Boxed W' B t v := (hb.block B h.lt).trans h
theorem chI_ok {l : List Int} {j : Nat} (h : 8 * j + 8 ≤ l.length) (hb : ∀ (k : Nat) (x : Int), l[k]? = some x → 0 ≤ x ∧ x < 256) : (chI l j).ok := by
  obtain ⟨b0, b1, b2, b3, b4, b5, b6, b7, -, g0, g1, g2, g3, g4, g5, g6, g7⟩ := eight (l := l) (k := 8 * j) h
  unfold chI
  rw [getD_some g0, getD_some g1, getD_some g2, getD_some g4, getD_some g5, getD_some g6, getD_some g7]
  exact eight_ok (hb _ _ g0) (hb _ _ g1) (hb _ _ g2) (hb _ _ g4) (hb _ _ g5) (hb _ _ g6) (hb _ _ g7)
theorem own_some {base : Nat} {w : World} {v : Value} {l : List Ins} {i : Ins} (h : OwnIR base w v (l ++ [i])) : ∃ g c, v = .slice (some ⟨g, 0, none⟩) (l.length + 1) c := by
  have h1 := h.1
  have e : (l ++ [i]).length = l.length + 1 := by simp
  rw [e] at h1
  exact ownsRow_succ h1
theorem app_insR {ops : Array Oper} {rest : List Oper} {o : Oper} {a : Act} {Q : Exit → Act → World → Prop} (w : World) (hg : o.guard = none) (s x : Operand) (ho : o.op = .call { callee := .builtin .append, args := #[s, x], argTypes := #[24, 24] })
    (base : Nat) {v : Value} {l m : List Ins} {A : Option Addr} {n c : Nat} (hs : a.eval s = v) (hx : a.eval x = .slice A n c) (hown : OwnIR base w v l) (hI : InsAt w A m) (hm : m.length = n) (hn : l.length + n ≤ 100000000) (hbase : base ≤ w.heap.size)
    (h : ∀ v' w', OwnIR base w' v' (l ++ m) → w.grownBy w' v.ownBlock → wpList Tryd.prog ops Q rest (a.put o.dst v') w') : wpList Tryd.prog ops Q (o :: rest) a w := by
  subst hm
  refine app_row w hg s x 24 50 (.agg #[.int .i64 0, .int .i64 0, .int .i64 0, .int .i64 0]) 4 32 ho und_ins info_ins rfl (by decide) (by decide) base hs hx hown.1 (ys := (m.flatMap encI).map (Value.int .i64)) ?_ hI.row nums_one hn hbase fun v' w' h1 h2 h3 => h v' w' ⟨?_, ?_⟩ h2
  · rw [List.length_map, flat_length (enc := encI) (sz := 4) (fun _ => rfl)]
  · rw [List.flatMap_append, List.map_append, List.length_append]; exact h1
  · intro i hi
    rcases List.mem_append.1 hi with hi | hi
    · exact hown.2 i hi
    · exact hI.ok i hi
theorem dc_chunk {l : List Int} {m j : Nat} (hl : l.length = 8 * m) (hj : j < m) : ∃ b0 b1 b2 b3 b4 b5 b6 b7, l.drop (8 * j) = b0 :: b1 :: b2 :: b3 :: b4 :: b5 :: b6 :: b7 :: l.drop (8 * j + 8) ∧ chI l j = eightI b0 b1 b2 b4 b5 b6 b7 ∧ (chG l j ↔ b3 = 0 ∧ (eightI b0 b1 b2 b4 b5 b6 b7).formed = true) := by
  obtain ⟨b0, b1, b2, b3, b4, b5, b6, b7, hd, g0, g1, g2, g3, g4, g5, g6, g7⟩ := eight (l := l) (k := 8 * j) (by omega)
  have hch : chI l j = eightI b0 b1 b2 b4 b5 b6 b7 := by
    unfold chI
    rw [getD_some g0, getD_some g1, getD_some g2, getD_some g4, getD_some g5, getD_some g6, getD_some g7]
  refine ⟨b0, b1, b2, b3, b4, b5, b6, b7, hd, hch, ?_⟩
  unfold chG
  rw [hch, getD_some g3]
theorem dc_to {l : List Int} {m : Nat} (hl : l.length = 8 * m) : ∀ j, j ≤ m → (∀ x : Fin m, x.val < j → chG l x.val) → DecTo l (8 * j) (chL l ((List.finRange m).take j)) := fun j => by
  induction j with
  | zero => exact fun _ _ => DecTo.zero l
  | succ j ih =>
    intro hj hg
    obtain ⟨b0, b1, b2, b3, b4, b5, b6, b7, hd, hch, hcg⟩ := dc_chunk hl (j := j) (by omega)
    obtain ⟨h3, hf⟩ := hcg.1 (hg ⟨j, by omega⟩ (Nat.lt_succ_self _))
    have h := (ih (by omega) fun x hx => hg x (by omega)).next hd h3 hf
    rw [fin_take (by omega : j < m)]
    have e : chL l ((List.finRange m).take j ++ [⟨j, by omega⟩]) = chL l ((List.finRange m).take j) ++ [eightI b0 b1 b2 b4 b5 b6 b7] := by
      unfold chL
      rw [List.map_append, ← hch]; rfl
    rw [e]
    exact h
theorem dc_all {l : List Int} {m : Nat} (hl : l.length = 8 * m) (hg : ∀ x ∈ List.finRange m, chG l x.val) : decL l = some (chL l (List.finRange m)) := by
  have h := dc_to hl m (Nat.le_refl _) fun x _ => hg x (List.mem_finRange x)
  rw [← hl, List.take_of_length_le (by simp)] at h
  exact h.all
theorem dc_bad {l : List Int} {m : Nat} (hl : l.length = 8 * m) : ∀ d j : Nat, m - j = d → (∀ x : Fin m, x.val < j → chG l x.val) → (∃ x : Fin m, ¬ chG l x.val) → decL l = none := fun d => by
  induction d with
  | zero =>
    rintro j hd hg ⟨x, hx⟩
    exact absurd (hg x (by omega)) hx
  | succ d ih =>
    intro j hd hg hx
    by_cases h : chG l j
    · refine ih (j + 1) (by omega) (fun x hxj => ?_) hx
      by_cases e : x.val = j
      · rw [e]; exact h
      · exact hg x (by omega)
    · obtain ⟨b0, b1, b2, b3, b4, b5, b6, b7, hdr, hch, hcg⟩ := dc_chunk hl (j := j) (by omega)
      exact (dc_to hl j (by omega) hg).stop hdr fun hf => h (hcg.2 hf)
theorem ownsRow_set {W : World} {base size n B : Nat} {t e : TypeId} {u v : Value} {xs : List Value} (h : W.ownsRow base e size v n xs) (hx : Boxed W B t u) (hte : t ≠ e) (u' : Value) : (W.setCell ⟨B, 0, none⟩ u').ownsRow base e size v n xs :=
  ownsRow_setCell_other h (fun e => (hx.not_row hte h) e.symm) _
theorem dc_stop {m : Nat} {w W W' : World} {B : Nat} {Kp : World → World → Prop} {I : List (Fin m) → World → Prop} {l : List Int} {pre : List (Fin m)} {a : Act} (hk : KeepsOthers W W') (h2 : Boxed W' w.heap.size 24 (.slice none 0 0)) (h3 : Boxed W' (w.heap.size + 1) 25 (.int .i64 0)) (hb : Below w.heap.size w W') (hx : ∃ x ∈ pre, ¬ chG l x.val) :
    ownPostG B Kp I (DcX w l m) pre W .ret a ((W'.setCell ⟨w.heap.size, 0, none⟩ (.slice none 0 0)).setCell ⟨w.heap.size + 1, 0, none⟩ (.int .i64 21)) :=
  ⟨((hk.trans (KeepsOthers.setCell _ _ _)).trans (KeepsOthers.setCell _ _ _)).from _, ⟨(h2.set _).other (by omega) _, (h3.other (by omega) _).set _⟩, ⟨rfl, hx⟩, (hb.setCell (p := ⟨w.heap.size, 0, none⟩) (Nat.le_refl _) _).setCell (p := ⟨w.heap.size + 1, 0, none⟩) (Nat.le_succ _) _⟩
def dcF (b : Nat) (ds : List Value) (i : Nat) (v : Value) (w : World) : Prop :=
  match ds[i]? with
  | some u => v = u
  | none => ∃ g, v = .pointer (some ⟨g, 0, none⟩) ∧ Box w g Ins.zero.cells ∧ b ≤ g
theorem dcF_keep {b : Nat} {ds : List Value} {w w' : World} (h : Below w.heap.size w w') (i : Nat) (v : Value) (hf : dcF b ds i v w) : dcF b ds i v w' := by
  unfold dcF at hf ⊢
  split at hf
  · exact hf
  · obtain ⟨g, e, hb, hg⟩ := hf
    exact ⟨g, e, hb.keep h, hg⟩
theorem or_i64 (i : Nat) (x y : Int) (hx₀ : 0 ≤ x) (hx : x < 2 ^ i) (hx1 : x < 1099511627776) (hy₀ : 0 ≤ y) (hy : y % 2 ^ i = 0) (hy1 : y < 1099511627776) : bits .or .i64 x y = x + y :=
  bits_join_low .i64 40 (by decide) (fun n h0 h1 => IntWalk.i64_in _ (by omega)) i x y hx₀ hx hx1 hy₀ hy hy1
set_option maxRecDepth 100000 in
set_option maxHeartbeats 8000000 in
theorem pr_Decode (A : Option Addr) (n c : Nat) (l : List Int) (w : World) (hf : FormsAt w) (h : BytesAt w A l) (hn : l.length = n) (hc : n ≤ c) (h9 : n ≤ 9223372036854775807) : Calls Tryd.prog 7 #[.slice A n c] w (RetDec w (decI l) (decE l)) := by
  have HI := Lib.hid h
  have HN := Lib.hid hn
  have HF := Lib.hid hf
  clear h hn hf
  refine (callsIn_wide (n := 3)).1 ?_
  refine callsIn_of_wp_marks Tryd.func7 rfl trivial ?_ rfl
  simp only [Tryd.ntmps7, List.size_toArray, List.length_cons, List.length_nil, Nat.reduceAdd, Nat.reduceSub, Array.replicate_succ, Array.replicate_zero, List.push_toArray, List.append_toArray, List.nil_append, List.cons_append]
  by_cases hbig : 4096 < n
  · obtain ⟨e1, e2⟩ := dec_many (l := l) (by rw [HN.out]; exact hbig)
    rw [e1, e2]
    have q : (4096 : Int) < (n : Int) := by omega
    clear e1 e2
    gi_wp2
    refine ⟨.tuple #[.slice none 0 0, .int .i64 5], ?_, ?_⟩
    · simp [results, Tryd.f7, go_sem]
    · exact ⟨_, rfl, OwnIR.nil, ((Below.refl _ _).alloc (Nat.le_refl _) _).alloc (by simp) _⟩
  have q : ¬ (4096 : Int) < (n : Int) := by omega
  have hn4 : n ≤ 4096 := by omega
  by_cases h8 : n % 8 ≠ 0
  · obtain ⟨e1, e2⟩ := dec_odd (l := l) (by rw [HN.out]; exact hbig) (by rw [HN.out]; exact h8)
    rw [e1, e2]
    obtain ⟨m, hm⟩ : ∃ m, (n : Int).tmod 8 = m := ⟨_, rfl⟩
    have hm0 : m ≠ 0 := by rw [← hm, Int.tmod_eq_emod_of_nonneg (by omega)]; omega
    clear e1 e2
    gi_wp2
    refine ⟨.tuple #[.slice none 0 0, .int .i64 21], ?_, ?_⟩
    · simp [results, Tryd.f7, go_sem]
    · exact ⟨_, rfl, OwnIR.nil, ((Below.refl _ _).alloc (Nat.le_refl _) _).alloc (by simp) _⟩
  replace h8 : n % 8 = 0 := by omega
  have hm : (n : Int).tmod 8 = 0 := by rw [Int.tmod_eq_emod_of_nonneg (by omega)]; omega
  obtain ⟨m, hnm⟩ : ∃ m, Hid (n = 8 * m) := ⟨n / 8, Lib.hid (by omega)⟩
  gi_upto_region 6 with fail
  have HB0 : Hid (Below w.heap.size w (((w.alloc (.cells #[.slice none 0 0] 24)).alloc (.cells #[.int .i64 0] 25)).alloc (.cells #[.slice none 0 0] 24))) := Lib.hid ((((Below.refl _ _).alloc (Nat.le_refl _) _).alloc (by simp) _).alloc (by simp <;> omega) _)
  have HX2 : Hid (Boxed (((w.alloc (.cells #[.slice none 0 0] 24)).alloc (.cells #[.int .i64 0] 25)).alloc (.cells #[.slice none 0 0] 24)) w.heap.size 24 (.slice none 0 0)) := Lib.hid (((Boxed.new w _ _).alloc _).alloc _)
  have HX3 : Hid (Boxed (((w.alloc (.cells #[.slice none 0 0] 24)).alloc (.cells #[.int .i64 0] 25)).alloc (.cells #[.slice none 0 0] 24)) (w.heap.size + 1) 25 (.int .i64 0)) := Lib.hid (by
    have := (Boxed.new (w.alloc (.cells #[.slice none 0 0] 24)) 25 (.int .i64 0)).alloc (.cells #[.slice none 0 0] 24)
    rwa [World.size_alloc] at this)
  have HX4 : Hid (Boxed (((w.alloc (.cells #[.slice none 0 0] 24)).alloc (.cells #[.int .i64 0] 25)).alloc (.cells #[.slice none 0 0] 24)) (w.heap.size + 1 + 1) 24 (.slice none 0 0)) := Lib.hid (by
    have := Boxed.new ((w.alloc (.cells #[.slice none 0 0] 24)).alloc (.cells #[.int .i64 0] 25)) 24 (.slice none 0 0)
    rwa [World.size_alloc, World.size_alloc] at this)
  have HZ0 : Hid ((((w.alloc (.cells #[.slice none 0 0] 24)).alloc (.cells #[.int .i64 0] 25)).alloc (.cells #[.slice none 0 0] 24)).heap.size = w.heap.size + 3) := Lib.hid (by simp)
  generalize ((w.alloc (.cells #[.slice none 0 0] 24)).alloc (.cells #[.int .i64 0] 25)).alloc (.cells #[.slice none 0 0] 24) = W0 at HB0 HX2 HX3 HX4 HZ0 ⊢
  gi_wp2_with (refine ⟨trivial, ?_⟩; gi_at_call 20; refine (chunk_in 2 _ _ _ _).mono ?_; rintro e w' ⟨rfl, rfl⟩)
  have HBs := (Boxed.new W0 22 (.slice A n c)).alloc (.cells #[.int .i64 8] 3)
  have HBn : Boxed ((W0.alloc (.cells #[.slice A n c] 22)).alloc (.cells #[.int .i64 8] 3)) (W0.heap.size + 1) 3 (.int .i64 8) := by
    have := Boxed.new (W0.alloc (.cells #[.slice A n c] 22)) 3 (.int .i64 8)
    rwa [World.size_alloc] at this
  have HA : Hid (0 < n → ∃ ad, A = some ad) := Lib.hid fun h0 => by
    obtain ⟨x, hx⟩ : ∃ x, l[0]? = some x := ⟨_, List.getElem?_eq_getElem (by rw [HN.out]; exact h0)⟩
    obtain ⟨⟨ad, e, -⟩, -⟩ := HI.out 0 x hx
    exact ⟨ad, e⟩
  have HB5 : Below w.heap.size w ((W0.alloc (.cells #[.slice A n c] 22)).alloc (.cells #[.int .i64 8] 3)) := (HB0.out.alloc HB0.out.size _).alloc (by have := HB0.out.size; simp; omega) _
  have HCO : Hid (∀ x : Fin m, (chI l x.val).ok) := Lib.hid fun x => chI_ok (by rw [HN.out, hnm.out]; have := x.isLt; omega) fun k x hk => (HI.out k x hk).2
  refine wpIn_rangeFunc_ownG rfl (by omega) (gf := 40) (lb := #[.pointer (some ⟨W0.heap.size, 0, none⟩), .pointer (some ⟨W0.heap.size + 1, 0, none⟩)]) rfl trivial (enters_of Tryd.func40 (by kernel_rfl) rfl)
    (chunk_stops 2 (by omega) W0.heap.size (W0.heap.size + 1) m n c A hnm.out hn4 hc HA.out _ (by simp <;> omega) (by simp) HBs.cell HBn.cell) KpC.t (fun W l o o' _ h ho _ => KpC.b W l o o' h ho) (Below.refl _ _) (fun _ => rfl)
    (DcI w W0 A n c l m) (DcX w l m)
    (DcI_own HB5.size) (DcX_own HB5.size)
    ⟨⟨⟨_, (HX4.out.alloc _).alloc _, World.ownsRow_nil _ _ _ _, trivial⟩, (HX2.out.alloc _).alloc _, (HX3.out.alloc _).alloc _, HBs, HBn⟩, fun _ h => by simp at h, HB5⟩
    (fun x => { tmps := #[.slice A n c, undef, .pointer (some ⟨w.heap.size, 0, none⟩), .pointer (some ⟨w.heap.size + 1, 0, none⟩), .pointer (some ⟨w.heap.size + 1 + 1, 0, none⟩), .slice (A.map fun ad => ad.add (8 * x.val)) 8 8, undef, undef, .slice A n c, .int .i64 (n : Int), .bool false, .slice A n c, .int .i64 (n : Int), .int .i64 0, .bool false, .slice A n c, .func (.func 40) #[] #[.pointer (some ⟨W0.heap.size, 0, none⟩), .pointer (some ⟨W0.heap.size + 1, 0, none⟩)], .slice (A.map fun ad => ad.add (8 * x.val)) 8 8, undef, undef, undef, undef, undef, undef, undef, undef, undef, undef, undef, undef, undef, undef, undef, undef, undef, undef, undef, undef, undef, undef, undef, undef, undef, undef, undef, undef, undef, undef, undef, undef, undef, undef, undef, undef, undef, undef, undef, undef, undef, undef, undef, undef, undef, undef, undef, undef, undef, undef, undef, undef, undef, undef], defers := [] }) ?assign ?body ?done ?stop
  case assign =>
    intro l x W K hK
    gi_wp2
    exact hK
  case body =>
    rintro k pre x W ⟨⟨⟨v, hv, hrow, -⟩, hx2, hx3, hbs, hbn⟩, hg, hB⟩ hlt
    have hxm : 8 * x.val + 8 ≤ n := by have := hnm.out; have := x.isLt; omega
    obtain ⟨q, hq⟩ : ∃ q, 8 * x.val = q := ⟨_, rfl⟩
    have HQ := Lib.hid hq
    rw [hq] at hxm ⊢
    clear hq
    obtain ⟨b0, b1, b2, b3, b4, b5, b6, b7, hd, g0, g1, g2, g3, g4, g5, g6, g7⟩ := eight (l := l) (k := q) (by rw [HN.out]; exact hxm)
    have hch : chI l x.val = eightI b0 b1 b2 b4 b5 b6 b7 := by
      unfold chI
      rw [HQ.out, getD_some g0, getD_some g1, getD_some g2, getD_some g4, getD_some g5, getD_some g6, getD_some g7]
    have hcg : chG l x.val ↔ b3 = 0 ∧ (eightI b0 b1 b2 b4 b5 b6 b7).formed = true := by
      unfold chG
      rw [hch, HQ.out, getD_some g3]
    have HAW := HI.out.grow hB
    obtain ⟨⟨ad, rfl, c0, hcb⟩, r0⟩ := HAW _ _ g0
    obtain ⟨⟨ad1, e1, c1, -⟩, r1⟩ := HAW _ _ g1
    obtain ⟨⟨ad2, e2, c2, -⟩, r2⟩ := HAW _ _ g2
    obtain ⟨⟨ad3, e3, c3, -⟩, r3⟩ := HAW _ _ g3
    obtain ⟨⟨ad4, e4, c4, -⟩, r4⟩ := HAW _ _ g4
    obtain ⟨⟨ad5, e5, c5, -⟩, r5⟩ := HAW _ _ g5
    obtain ⟨⟨ad6, e6, c6, -⟩, r6⟩ := HAW _ _ g6
    obtain ⟨⟨ad7, e7, c7, -⟩, r7⟩ := HAW _ _ g7
    injection e1 with e1; injection e2 with e2; injection e3 with e3; injection e4 with e4; injection e5 with e5; injection e6 with e6; injection e7 with e7
    subst e1; subst e2; subst e3; subst e4; subst e5; subst e6; subst e7
    clear hd g0 g1 g2 g3 g4 g5 g6 g7 HAW HQ
    dsimp only [Option.map_some]
    obtain ⟨aq, haq⟩ : ∃ a, ad.add q = a := ⟨_, rfl⟩
    rw [haq]
    have hbq : aq.block < W.heap.size := by rw [← haq, block_add]; exact hcb
    rw [haq] at c0
    replace c1 : W.cell? ⟨aq.block, aq.off + 1, none⟩ = some (.int .u8 b1) := by rw [← add_add, haq] at c1; simpa [Addr.add] using c1
    replace c2 : W.cell? ⟨aq.block, aq.off + 2, none⟩ = some (.int .u8 b2) := by rw [← add_add, haq] at c2; simpa [Addr.add] using c2
    replace c3 : W.cell? ⟨aq.block, aq.off + 3, none⟩ = some (.int .u8 b3) := by rw [← add_add, haq] at c3; simpa [Addr.add] using c3
    replace c4 : W.cell? ⟨aq.block, aq.off + 4, none⟩ = some (.int .u8 b4) := by rw [← add_add, haq] at c4; simpa [Addr.add] using c4
    replace c5 : W.cell? ⟨aq.block, aq.off + 5, none⟩ = some (.int .u8 b5) := by rw [← add_add, haq] at c5; simpa [Addr.add] using c5
    replace c6 : W.cell? ⟨aq.block, aq.off + 6, none⟩ = some (.int .u8 b6) := by rw [← add_add, haq] at c6; simpa [Addr.add] using c6
    replace c7 : W.cell? ⟨aq.block, aq.off + 7, none⟩ = some (.int .u8 b7) := by rw [← add_add, haq] at c7; simpa [Addr.add] using c7
    clear haq hcb
    have v4 : IntKind.i64.wrap b4 = b4 := IntWalk.i64_in _ (by omega)
    have v5 : IntKind.i64.wrap b5 = b5 := IntWalk.i64_in _ (by omega)
    have v6 : IntKind.i64.wrap b6 = b6 := IntWalk.i64_in _ (by omega)
    have v7 : IntKind.i64.wrap b7 = b7 := IntWalk.i64_in _ (by omega)
    have s5 : IntKind.i64.wrap (b5 * 256) = b5 * 256 := IntWalk.i64_in _ (by omega)
    have s6 : IntKind.i64.wrap (b6 * 65536) = b6 * 65536 := IntWalk.i64_in _ (by omega)
    have s7 : IntKind.i64.wrap (b7 * 16777216) = b7 * 16777216 := IntWalk.i64_in _ (by omega)
    gi_upto_region 8 with fail
    refine regR_quiet (by kernel_rfl) (by kernel_rfl) (by kernel_rfl) ?_
    repeat (go_big_quiet_step (fail))
    refine wpQuiet_nil ?_
    rintro _ ⟨nq, rfl⟩
    have hUa : b4 + b5 * 256 < 65536 := by omega
    have hUb : b4 + b5 * 256 + b6 * 65536 < 16777216 := by omega
    obtain ⟨U, hU⟩ : ∃ u, b4 + b5 * 256 + b6 * 65536 + b7 * 16777216 = u := ⟨_, rfl⟩
    have hU0 : 0 ≤ U ∧ U < 4294967296 := by omega
    rw [or_i64 8 b4 (b5 * 256) (by omega) (by omega) (by omega) (by omega) (by omega) (by omega), or_i64 16 (b4 + b5 * 256) (b6 * 65536) (by omega) (by omega) (by omega) (by omega) (by omega) (by omega), or_i64 24 (b4 + b5 * 256 + b6 * 65536) (b7 * 16777216) (by omega) (by omega) (by omega) (by omega) (by omega) (by omega), hU]
    obtain ⟨V, hV⟩ : ∃ v, wordI U = v := ⟨_, rfl⟩
    have HI8 : Hid (eightI b0 b1 b2 b4 b5 b6 b7 = ⟨b0, b1, b2, V⟩) := Lib.hid (by unfold eightI; rw [hU, hV])
    have HOK : Hid (eightI b0 b1 b2 b4 b5 b6 b7).ok := Lib.hid (eight_ok r0 r1 r2 r4 r5 r6 r7)
    rw [HI8.out] at HOK
    have HCG := Lib.hid hcg
    have HCH := Lib.hid hch
    rw [HI8.out] at HCG HCH
    have v0 : IntKind.i64.wrap b0 = b0 := IntWalk.i64_in _ (by omega)
    have v1 : IntKind.i64.wrap b1 = b1 := IntWalk.i64_in _ (by omega)
    have v2 : IntKind.i64.wrap b2 = b2 := IntWalk.i64_in _ (by omega)
    have key : (2147483648 ≤ U ∧ IntKind.i64.wrap (U - 4294967296) = V) ∨ (¬ 2147483648 ≤ U ∧ U = V) := by
      unfold wordI at hV
      by_cases h : 2147483648 ≤ U
      · rw [if_pos h] at hV
        exact .inl ⟨h, (IntWalk.i64_in _ (by omega)).trans hV⟩
      · rw [if_neg h] at hV
        exact .inr ⟨h, hV⟩
    generalize (b4 + b5 * 256 + b6 * 65536) = y6
    generalize (b4 + b5 * 256) = y5
    generalize b5 * 256 = z5
    generalize b6 * 65536 = z6
    generalize b7 * 16777216 = z7
    clear hV hU hU0 hUa hUb hcg hch v4 v5 v6 v7 s5 s6 s7 c4 c5 c6 c7 r0 r1 r2 r3 HI8
    obtain ⟨W1, hW1⟩ : ∃ W1, W.drewN nq = W1 := ⟨_, rfl⟩
    have hh : W1.heap = W.heap := by rw [← hW1]; rfl
    rw [hW1]
    have hKO : KeepsOthers W W1 := ⟨by rw [hh]; exact Nat.le_refl _, fun k o hk _ => by rw [hh]; exact hk⟩
    have hbW : Below W.heap.size W W1 := by rw [← hW1]; exact below_drewN (Below.refl _ _) _
    have HKO := Lib.hid hKO
    have HBW := Lib.hid hbW
    have hv1 : Boxed W1 (w.heap.size + 1 + 1) 24 v := by unfold Boxed; rw [hh]; exact hv
    have hx21 : Boxed W1 w.heap.size 24 (.slice none 0 0) := by unfold Boxed; rw [hh]; exact hx2
    have hx31 : Boxed W1 (w.heap.size + 1) 25 (.int .i64 0) := by unfold Boxed; rw [hh]; exact hx3
    have hbs1 : Boxed W1 W0.heap.size 22 (.slice (some ad) n c) := by unfold Boxed; rw [hh]; exact hbs
    have hbn1 : Boxed W1 (W0.heap.size + 1) 3 (.int .i64 8) := by unfold Boxed; rw [hh]; exact hbn
    have hrow1 : W1.ownsRow w.heap.size 50 4 v (chL l pre).length (((chL l pre).flatMap encI).map (Value.int .i64)) := own_grow hrow hbW
    have hB1 : Below w.heap.size w W1 := below_then hB hbW
    have d0 : W1.cell? aq = some (.int .u8 b0) := (hbW.cell hbq).trans c0
    have d1 : W1.cell? ⟨aq.block, aq.off + 1, none⟩ = some (.int .u8 b1) := (hbW.cell (p := ⟨aq.block, aq.off + 1, none⟩) hbq).trans c1
    have d2 : W1.cell? ⟨aq.block, aq.off + 2, none⟩ = some (.int .u8 b2) := (hbW.cell (p := ⟨aq.block, aq.off + 2, none⟩) hbq).trans c2
    have d3 : W1.cell? ⟨aq.block, aq.off + 3, none⟩ = some (.int .u8 b3) := (hbW.cell (p := ⟨aq.block, aq.off + 3, none⟩) hbq).trans c3
    have hbq1 : aq.block < W1.heap.size := Nat.lt_of_lt_of_le hbq hbW.size
    clear c0 c1 c2 c3 hbq
    have HROW := Lib.hid hrow1
    have HV1 := Lib.hid hv1
    have HX21 := Lib.hid hx21
    have HX31 := Lib.hid hx31
    have HBS1 := Lib.hid hbs1
    have HBN1 := Lib.hid hbn1
    have HD0 := Lib.hid d0
    have HD1 := Lib.hid d1
    have HD2 := Lib.hid d2
    have HD3 := Lib.hid d3
    have HBQ1 := Lib.hid hbq1
    have HB1 := Lib.hid hB1
    have HG := Lib.hid hg
    have HBSW := Lib.hid hbs
    have HBNW := Lib.hid hbn
    clear hv hx2 hx3 hbs hbn hrow hB hKO hbW hh hW1 hv1 hx21 hx31 hbs1 hbn1 hrow1 d0 d1 d2 d3 hbq1 hB1 hg
    rcases key with ⟨hu, wu⟩ | ⟨hu, hv⟩
    rotate_left
    · replace hv := hv.symm
      subst hv
      gi_upto_region 11 with fail
      refine regR_grow 15 (fun w2 => Below W1.heap.size W1 w2) (fun a b => Below a.heap.size a b) (dcF W1.heap.size [.slice (some aq) 8 8, .pointer (some aq), .int .u8 b0, .int .i64 b0, .slice (some aq) 8 8, .pointer (some ⟨aq.block, aq.off + 1, none⟩), .int .u8 b1, .int .i64 b1, .slice (some aq) 8 8, .pointer (some ⟨aq.block, aq.off + 2, none⟩), .int .u8 b2, .int .i64 b2, .int .i64 V, .agg #[.int .i64 b0, .int .i64 b1, .int .i64 b2, .int .i64 V]]) (by kernel_rfl) (by kernel_rfl) (by kernel_rfl) ((Below.refl _ _).drew) (fun w1 w2 h1 h2 => ⟨below_then h1 h2, fun i _ v hv => dcF_keep h2 i v hv⟩) ?_ ?_
      · refine ⟨?_, ?_, ?_, ?_, ?_, ?_, ?_, ?_, ?_, ?_, ?_, ?_, ?_, ?_, ?_, trivial⟩
        all_goals
          intro vs w2 hp hF
          have HP := Lib.hid hp
          have y0 : w2.cell? aq = some (.int .u8 b0) := (hp.cell HBQ1.out).trans HD0.out
          have y1 : w2.cell? ⟨aq.block, aq.off + 1, none⟩ = some (.int .u8 b1) := (hp.cell (p := ⟨aq.block, aq.off + 1, none⟩) HBQ1.out).trans HD1.out
          have y2 : w2.cell? ⟨aq.block, aq.off + 2, none⟩ = some (.int .u8 b2) := (hp.cell (p := ⟨aq.block, aq.off + 2, none⟩) HBQ1.out).trans HD2.out
          clear hp
          simp [depsB, Region.binds, dcF] at hF
          simp [stL, depsB, Region.binds, Act.put, hF]
        · go_wp2_with fail
          exact ⟨rfl, Below.refl _ _⟩
        · go_wp2_with fail
          exact ⟨rfl, Below.refl _ _⟩
        · go_wp2_with fail
          exact ⟨rfl, Below.refl _ _⟩
        · go_wp2_with fail
          exact ⟨rfl, Below.refl _ _⟩
        · go_wp2_with fail
          exact ⟨rfl, Below.refl _ _⟩
        · go_wp2_with fail
          exact ⟨rfl, Below.refl _ _⟩
        · go_wp2_with fail
          exact ⟨rfl, Below.refl _ _⟩
        · go_wp2_with fail
          exact ⟨rfl, Below.refl _ _⟩
        · go_wp2_with fail
          exact ⟨rfl, Below.refl _ _⟩
        · go_wp2_with fail
          exact ⟨rfl, Below.refl _ _⟩
        · go_wp2_with fail
          exact ⟨rfl, Below.refl _ _⟩
        · go_wp2_with fail
          exact ⟨rfl, Below.refl _ _⟩
        · go_wp2_with fail
          exact ⟨rfl, Below.refl _ _⟩
        · go_wp2_with fail
          exact ⟨rfl, Below.refl _ _⟩
        · go_wp2_with fail
          exact ⟨⟨_, rfl, Box.new rfl, HP.out.size⟩, (Below.refl _ _).alloc (Nat.le_refl _) _⟩
      intro vs w2 hp hF
      have e13 : vs 13 = .agg #[.int .i64 b0, .int .i64 b1, .int .i64 b2, .int .i64 V] := hF 13 (by decide)
      obtain ⟨g7, e14, hx14, hg14⟩ : ∃ g, vs 14 = .pointer (some ⟨g, 0, none⟩) ∧ Box w2 g Ins.zero.cells ∧ W1.heap.size ≤ g := hF 14 (by decide)
      show wpList Tryd.prog _ _ [_] _ _
      simp [stL, Act.put, e13, e14]
      refine st_ins (j := ⟨b0, b1, b2, V⟩) hx14 rfl _ _ rfl rfl rfl ?_
      intro W3 b3' p3
      refine wpList_nil ⟨rfl, ?_⟩
      simp only [Act.put]
      generalize vs 0 = q0
      generalize vs 1 = q1
      generalize vs 2 = q2
      generalize vs 3 = q3
      generalize vs 4 = q4
      generalize vs 5 = q5
      generalize vs 6 = q6
      generalize vs 7 = q7
      generalize vs 8 = q8
      generalize vs 9 = q9
      generalize vs 10 = q10
      generalize vs 11 = q11
      generalize vs 12 = q12
      have hb13 : Below W1.heap.size W1 W3 := put_facts hp hg14 p3
      have HB13 := Lib.hid hb13
      have HX7 : Hid (Box W3 g7 (⟨b0, b1, b2, V⟩ : Ins).cells) := Lib.hid b3'
      obtain ⟨z0, z1, z2, z3⟩ : W3.cell? ⟨g7, 0, none⟩ = some (.int .i64 b0) ∧ W3.cell? ⟨g7, 1, none⟩ = some (.int .i64 b1) ∧ W3.cell? ⟨g7, 2, none⟩ = some (.int .i64 b2) ∧ W3.cell? ⟨g7, 3, none⟩ = some (.int .i64 V) := ⟨b3'.2.1 0, b3'.2.1 1, b3'.2.1 2, b3'.2.1 3⟩
      have f3 : W3.cell? ⟨aq.block, aq.off + 3, none⟩ = some (.int .u8 b3) := (hb13.cell (p := ⟨aq.block, aq.off + 3, none⟩) HBQ1.out).trans HD3.out
      have HK3 := Lib.hid (HKO.out.trans (keepsO_below hb13))
      have HV3 := Lib.hid (boxed_below HV1.out hb13)
      have HX23 := Lib.hid (boxed_below HX21.out hb13)
      have HX33 := Lib.hid (boxed_below HX31.out hb13)
      have HBS3 := Lib.hid (boxed_below HBS1.out hb13)
      have HBN3 := Lib.hid (boxed_below HBN1.out hb13)
      have HW3 := Lib.hid (below_then HB1.out hb13)
      have HO3 := Lib.hid (own_grow HROW.out hb13)
      clear hF hp e13 e14 hx14 hg14 b3' p3 hb13
      obtain ⟨y, hy⟩ : ∃ y, (⟨b0, b1, b2, V⟩ : Ins).formed = y := ⟨_, rfl⟩
      have CF : Hid (Calls Tryd.prog 21 #[.agg #[.int .i64 b0, .int .i64 b1, .int .i64 b2, .int .i64 V]] W3 fun e w' => e = .returned (.bool y) ∧ Below W3.heap.size W3 w') := Lib.hid (by rw [← hy]; exact pr_formed ⟨b0, b1, b2, V⟩ W3 (HF.out.grow HW3.out))
      have HY := Lib.hid hy
      by_cases hb3 : b3 = 0
      · subst hb3
        cases y with
        | false =>
          have hcell2 : ∀ w', Below W3.heap.size W3 w' → w'.cell? ⟨w.heap.size, 0, none⟩ = some (.slice none 0 0) ∧ w'.frozen? ⟨w.heap.size, 0, none⟩ = false ∧ w'.cell? ⟨w.heap.size + 1, 0, none⟩ = some (.int .i64 0) ∧ w'.frozen? ⟨w.heap.size + 1, 0, none⟩ = false := fun w' h => ⟨(boxed_below HX23.out h).cell, (boxed_below HX23.out h).frozen, (boxed_below HX33.out h).cell, (boxed_below HX33.out h).frozen⟩
          gi_wp2_with (refine ⟨trivial, ?_⟩; gi_at_call 21; refine (CallsIn.inRound k (callsIn_wide.2 CF.out)).mono ?_; rintro e4 w4 ⟨rfl, hb4⟩; obtain ⟨t0, t1, t2, t3⟩ := hcell2 _ hb4)
          exact dc_stop (HK3.out.trans (keepsO_below hb4)) (boxed_below HX23.out hb4) (boxed_below HX33.out hb4) (below_then HW3.out hb4) ⟨x, List.mem_append_right _ (List.mem_singleton.2 rfl), fun h => by have := (HCG.out.1 h).2; rw [HY.out] at this; cases this⟩
        | true =>
          have HGX : Hid (chG l x.val) := Lib.hid (HCG.out.2 ⟨rfl, HY.out⟩)
          gi_upto_region 14 with (refine ⟨trivial, ?_⟩; gi_at_call 21; refine (CallsIn.inRound k (callsIn_wide.2 CF.out)).mono ?_; rintro e4 w4 ⟨rfl, hb4⟩)
          have hx7 := HX7.out.keep hb4
          have hv4 := boxed_below HV3.out hb4
          have hk4 := HK3.out.trans (keepsO_below hb4)
          have hr4 : OwnIR w.heap.size w4 v (chL l pre) := ⟨own_grow HO3.out hb4, fun i hi => by obtain ⟨x, -, rfl⟩ := List.mem_map.1 hi; exact HCO.out x⟩
          have hw4 := below_then HW3.out hb4
          have hx24 := boxed_below HX23.out hb4
          have hx34 := boxed_below HX33.out hb4
          have hbs4 := boxed_below HBS3.out hb4
          have hbn4 := boxed_below HBN3.out hb4
          have hlen : (chL l pre).length + 1 ≤ 100000000 := by unfold chL; rw [List.length_map]; have := hnm.out; omega
          have hvc := hv4.cell
          have hsz4 := hw4.size
          clear z0 z1 z2 z3 f3 hb4
          refine regR_list (by kernel_rfl) ?_
          go_wp2_with (first
            | ((with_reducible show wpList _ _ _ (Oper.mk _ (.load 50 _) _ _ _ _ :: _) _ _); refine ld_ins hx7 rfl _ rfl rfl ?_)
            | ((with_reducible show wpList _ _ _ (Oper.mk _ (.buildSlice _ _ _) _ _ _ _ :: _) _ _); refine bld_ins1 (i := ⟨b0, b1, b2, V⟩) rfl _ rfl rfl ?_)
            | (at_builtin; refine app_insR _ rfl _ _ rfl w.heap.size (m := [⟨b0, b1, b2, V⟩]) rfl rfl (hr4.grow ((Below.refl _ _).alloc (Nat.le_refl _) _)) (single_at HOK.out) rfl hlen (Nat.le_trans hsz4 (by simp)) ?_; intro v5 w5 hown5 hg5; obtain ⟨hv5, hv6, hr6, hk6, hb6⟩ := hv4.appended (by decide) hr4.1 hsz4 (by omega) hown5.1 hg5; have hx26 := ((hx24.alloc _).kept hg5 (hx24.not_row (by decide) hr4.1)).other (B' := w.heap.size + 1 + 1) (by omega) v5; have hx36 := ((hx34.alloc _).kept hg5 (hx34.not_row (by decide) hr4.1)).other (B' := w.heap.size + 1 + 1) (by omega) v5; have hbs6 := ((hbs4.alloc _).kept hg5 (hbs4.not_row (by decide) hr4.1)).other (B' := w.heap.size + 1 + 1) (by have := HZ0.out; omega) v5; have hbn6 := ((hbn4.alloc _).kept hg5 (hbn4.not_row (by decide) hr4.1)).other (B' := w.heap.size + 1 + 1) (by have := HZ0.out; omega) v5; obtain ⟨g5, cap5, rfl⟩ := own_some hown5; have hc5 := hv5.cell; have hf5 := hv5.frozen))
          have hce : chL l (pre ++ [x]) = chL l pre ++ [⟨b0, b1, b2, V⟩] := by
            unfold chL
            rw [List.map_append]
            show _ ++ [chI l x.val] = _
            rw [HCH.out]
          refine ⟨(hk4.trans hk6).from _, ⟨fun u hu => ?_, fun u hu => ?_⟩, ⟨⟨_, hv6, ?_, trivial⟩, hx26, hx36, hbs6, hbn6⟩, fun z hz => ?_, hw4.trans hb6⟩
          · have e := (HBSW.out.cell).symm.trans hu
            injection e with e
            subst e; exact hbs6.cell
          · have e := (HBNW.out.cell).symm.trans hu
            injection e with e
            subst e; exact hbn6.cell
          · rw [hce]; exact hr6
          · rcases List.mem_append.1 hz with hz | hz
            · exact HG.out z hz
            · rw [List.mem_singleton.1 hz]; exact HGX.out
      · have hcell2 : W3.cell? ⟨w.heap.size, 0, none⟩ = some (.slice none 0 0) ∧ W3.frozen? ⟨w.heap.size, 0, none⟩ = false ∧ W3.cell? ⟨w.heap.size + 1, 0, none⟩ = some (.int .i64 0) ∧ W3.frozen? ⟨w.heap.size + 1, 0, none⟩ = false := ⟨HX23.out.cell, HX23.out.frozen, HX33.out.cell, HX33.out.frozen⟩
        obtain ⟨t0, t1, t2, t3⟩ := hcell2
        have hb3' : (b3 == 0) = false := beq_eq_false_iff_ne.2 hb3
        gi_wp2
        refine ⟨trivial, ?_⟩
        gi_wp2
        exact dc_stop HK3.out HX23.out HX33.out HW3.out ⟨x, List.mem_append_right _ (List.mem_singleton.2 rfl), fun h => hb3 (HCG.out.1 h).1⟩
    · gi_upto_region 11 with fail
      refine regR_grow 15 (fun w2 => Below W1.heap.size W1 w2) (fun a b => Below a.heap.size a b) (dcF W1.heap.size [.slice (some aq) 8 8, .pointer (some aq), .int .u8 b0, .int .i64 b0, .slice (some aq) 8 8, .pointer (some ⟨aq.block, aq.off + 1, none⟩), .int .u8 b1, .int .i64 b1, .slice (some aq) 8 8, .pointer (some ⟨aq.block, aq.off + 2, none⟩), .int .u8 b2, .int .i64 b2, .int .i64 V, .agg #[.int .i64 b0, .int .i64 b1, .int .i64 b2, .int .i64 V]]) (by kernel_rfl) (by kernel_rfl) (by kernel_rfl) ((Below.refl _ _).drew) (fun w1 w2 h1 h2 => ⟨below_then h1 h2, fun i _ v hv => dcF_keep h2 i v hv⟩) ?_ ?_
      · refine ⟨?_, ?_, ?_, ?_, ?_, ?_, ?_, ?_, ?_, ?_, ?_, ?_, ?_, ?_, ?_, trivial⟩
        all_goals
          intro vs w2 hp hF
          have HP := Lib.hid hp
          have y0 : w2.cell? aq = some (.int .u8 b0) := (hp.cell HBQ1.out).trans HD0.out
          have y1 : w2.cell? ⟨aq.block, aq.off + 1, none⟩ = some (.int .u8 b1) := (hp.cell (p := ⟨aq.block, aq.off + 1, none⟩) HBQ1.out).trans HD1.out
          have y2 : w2.cell? ⟨aq.block, aq.off + 2, none⟩ = some (.int .u8 b2) := (hp.cell (p := ⟨aq.block, aq.off + 2, none⟩) HBQ1.out).trans HD2.out
          clear hp
          simp [depsB, Region.binds, dcF] at hF
          simp [stL, depsB, Region.binds, Act.put, hF]
        · go_wp2_with fail
          exact ⟨rfl, Below.refl _ _⟩
        · go_wp2_with fail
          exact ⟨rfl, Below.refl _ _⟩
        · go_wp2_with fail
          exact ⟨rfl, Below.refl _ _⟩
        · go_wp2_with fail
          exact ⟨rfl, Below.refl _ _⟩
        · go_wp2_with fail
          exact ⟨rfl, Below.refl _ _⟩
        · go_wp2_with fail
          exact ⟨rfl, Below.refl _ _⟩
        · go_wp2_with fail
          exact ⟨rfl, Below.refl _ _⟩
        · go_wp2_with fail
          exact ⟨rfl, Below.refl _ _⟩
        · go_wp2_with fail
          exact ⟨rfl, Below.refl _ _⟩
        · go_wp2_with fail
          exact ⟨rfl, Below.refl _ _⟩
        · go_wp2_with fail
          exact ⟨rfl, Below.refl _ _⟩
        · go_wp2_with fail
          exact ⟨rfl, Below.refl _ _⟩
        · go_wp2_with fail
          exact ⟨rfl, Below.refl _ _⟩
        · go_wp2_with fail
          exact ⟨rfl, Below.refl _ _⟩
        · go_wp2_with fail
          exact ⟨⟨_, rfl, Box.new rfl, HP.out.size⟩, (Below.refl _ _).alloc (Nat.le_refl _) _⟩
      intro vs w2 hp hF
      have e13 : vs 13 = .agg #[.int .i64 b0, .int .i64 b1, .int .i64 b2, .int .i64 V] := hF 13 (by decide)
      obtain ⟨g7, e14, hx14, hg14⟩ : ∃ g, vs 14 = .pointer (some ⟨g, 0, none⟩) ∧ Box w2 g Ins.zero.cells ∧ W1.heap.size ≤ g := hF 14 (by decide)
      show wpList Tryd.prog _ _ [_] _ _
      simp [stL, Act.put, e13, e14]
      refine st_ins (j := ⟨b0, b1, b2, V⟩) hx14 rfl _ _ rfl rfl rfl ?_
      intro W3 b3' p3
      refine wpList_nil ⟨rfl, ?_⟩
      simp only [Act.put]
      generalize vs 0 = q0
      generalize vs 1 = q1
      generalize vs 2 = q2
      generalize vs 3 = q3
      generalize vs 4 = q4
      generalize vs 5 = q5
      generalize vs 6 = q6
      generalize vs 7 = q7
      generalize vs 8 = q8
      generalize vs 9 = q9
      generalize vs 10 = q10
      generalize vs 11 = q11
      generalize vs 12 = q12
      have hb13 : Below W1.heap.size W1 W3 := put_facts hp hg14 p3
      have HB13 := Lib.hid hb13
      have HX7 : Hid (Box W3 g7 (⟨b0, b1, b2, V⟩ : Ins).cells) := Lib.hid b3'
      obtain ⟨z0, z1, z2, z3⟩ : W3.cell? ⟨g7, 0, none⟩ = some (.int .i64 b0) ∧ W3.cell? ⟨g7, 1, none⟩ = some (.int .i64 b1) ∧ W3.cell? ⟨g7, 2, none⟩ = some (.int .i64 b2) ∧ W3.cell? ⟨g7, 3, none⟩ = some (.int .i64 V) := ⟨b3'.2.1 0, b3'.2.1 1, b3'.2.1 2, b3'.2.1 3⟩
      have f3 : W3.cell? ⟨aq.block, aq.off + 3, none⟩ = some (.int .u8 b3) := (hb13.cell (p := ⟨aq.block, aq.off + 3, none⟩) HBQ1.out).trans HD3.out
      have HK3 := Lib.hid (HKO.out.trans (keepsO_below hb13))
      have HV3 := Lib.hid (boxed_below HV1.out hb13)
      have HX23 := Lib.hid (boxed_below HX21.out hb13)
      have HX33 := Lib.hid (boxed_below HX31.out hb13)
      have HBS3 := Lib.hid (boxed_below HBS1.out hb13)
      have HBN3 := Lib.hid (boxed_below HBN1.out hb13)
      have HW3 := Lib.hid (below_then HB1.out hb13)
      have HO3 := Lib.hid (own_grow HROW.out hb13)
      clear hF hp e13 e14 hx14 hg14 b3' p3 hb13
      obtain ⟨y, hy⟩ : ∃ y, (⟨b0, b1, b2, V⟩ : Ins).formed = y := ⟨_, rfl⟩
      have CF : Hid (Calls Tryd.prog 21 #[.agg #[.int .i64 b0, .int .i64 b1, .int .i64 b2, .int .i64 V]] W3 fun e w' => e = .returned (.bool y) ∧ Below W3.heap.size W3 w') := Lib.hid (by rw [← hy]; exact pr_formed ⟨b0, b1, b2, V⟩ W3 (HF.out.grow HW3.out))
      have HY := Lib.hid hy
      by_cases hb3 : b3 = 0
      · subst hb3
        cases y with
        | false =>
          have hcell2 : ∀ w', Below W3.heap.size W3 w' → w'.cell? ⟨w.heap.size, 0, none⟩ = some (.slice none 0 0) ∧ w'.frozen? ⟨w.heap.size, 0, none⟩ = false ∧ w'.cell? ⟨w.heap.size + 1, 0, none⟩ = some (.int .i64 0) ∧ w'.frozen? ⟨w.heap.size + 1, 0, none⟩ = false := fun w' h => ⟨(boxed_below HX23.out h).cell, (boxed_below HX23.out h).frozen, (boxed_below HX33.out h).cell, (boxed_below HX33.out h).frozen⟩
          gi_wp2_with (refine ⟨trivial, ?_⟩; gi_at_call 21; refine (CallsIn.inRound k (callsIn_wide.2 CF.out)).mono ?_; rintro e4 w4 ⟨rfl, hb4⟩; obtain ⟨t0, t1, t2, t3⟩ := hcell2 _ hb4)
          exact dc_stop (HK3.out.trans (keepsO_below hb4)) (boxed_below HX23.out hb4) (boxed_below HX33.out hb4) (below_then HW3.out hb4) ⟨x, List.mem_append_right _ (List.mem_singleton.2 rfl), fun h => by have := (HCG.out.1 h).2; rw [HY.out] at this; cases this⟩
        | true =>
          have HGX : Hid (chG l x.val) := Lib.hid (HCG.out.2 ⟨rfl, HY.out⟩)
          gi_upto_region 14 with (refine ⟨trivial, ?_⟩; gi_at_call 21; refine (CallsIn.inRound k (callsIn_wide.2 CF.out)).mono ?_; rintro e4 w4 ⟨rfl, hb4⟩)
          have hx7 := HX7.out.keep hb4
          have hv4 := boxed_below HV3.out hb4
          have hk4 := HK3.out.trans (keepsO_below hb4)
          have hr4 : OwnIR w.heap.size w4 v (chL l pre) := ⟨own_grow HO3.out hb4, fun i hi => by obtain ⟨x, -, rfl⟩ := List.mem_map.1 hi; exact HCO.out x⟩
          have hw4 := below_then HW3.out hb4
          have hx24 := boxed_below HX23.out hb4
          have hx34 := boxed_below HX33.out hb4
          have hbs4 := boxed_below HBS3.out hb4
          have hbn4 := boxed_below HBN3.out hb4
          have hlen : (chL l pre).length + 1 ≤ 100000000 := by unfold chL; rw [List.length_map]; have := hnm.out; omega
          have hvc := hv4.cell
          have hsz4 := hw4.size
          clear z0 z1 z2 z3 f3 hb4
          refine regR_list (by kernel_rfl) ?_
          go_wp2_with (first
            | ((with_reducible show wpList _ _ _ (Oper.mk _ (.load 50 _) _ _ _ _ :: _) _ _); refine ld_ins hx7 rfl _ rfl rfl ?_)
            | ((with_reducible show wpList _ _ _ (Oper.mk _ (.buildSlice _ _ _) _ _ _ _ :: _) _ _); refine bld_ins1 (i := ⟨b0, b1, b2, V⟩) rfl _ rfl rfl ?_)
            | (at_builtin; refine app_insR _ rfl _ _ rfl w.heap.size (m := [⟨b0, b1, b2, V⟩]) rfl rfl (hr4.grow ((Below.refl _ _).alloc (Nat.le_refl _) _)) (single_at HOK.out) rfl hlen (Nat.le_trans hsz4 (by simp)) ?_; intro v5 w5 hown5 hg5; obtain ⟨hv5, hv6, hr6, hk6, hb6⟩ := hv4.appended (by decide) hr4.1 hsz4 (by omega) hown5.1 hg5; have hx26 := ((hx24.alloc _).kept hg5 (hx24.not_row (by decide) hr4.1)).other (B' := w.heap.size + 1 + 1) (by omega) v5; have hx36 := ((hx34.alloc _).kept hg5 (hx34.not_row (by decide) hr4.1)).other (B' := w.heap.size + 1 + 1) (by omega) v5; have hbs6 := ((hbs4.alloc _).kept hg5 (hbs4.not_row (by decide) hr4.1)).other (B' := w.heap.size + 1 + 1) (by have := HZ0.out; omega) v5; have hbn6 := ((hbn4.alloc _).kept hg5 (hbn4.not_row (by decide) hr4.1)).other (B' := w.heap.size + 1 + 1) (by have := HZ0.out; omega) v5; obtain ⟨g5, cap5, rfl⟩ := own_some hown5; have hc5 := hv5.cell; have hf5 := hv5.frozen))
          have hce : chL l (pre ++ [x]) = chL l pre ++ [⟨b0, b1, b2, V⟩] := by
            unfold chL
            rw [List.map_append]
            show _ ++ [chI l x.val] = _
            rw [HCH.out]
          refine ⟨(hk4.trans hk6).from _, ⟨fun u hu => ?_, fun u hu => ?_⟩, ⟨⟨_, hv6, ?_, trivial⟩, hx26, hx36, hbs6, hbn6⟩, fun z hz => ?_, hw4.trans hb6⟩
          · have e := (HBSW.out.cell).symm.trans hu
            injection e with e
            subst e; exact hbs6.cell
          · have e := (HBNW.out.cell).symm.trans hu
            injection e with e
            subst e; exact hbn6.cell
          · rw [hce]; exact hr6
          · rcases List.mem_append.1 hz with hz | hz
            · exact HG.out z hz
            · rw [List.mem_singleton.1 hz]; exact HGX.out
      · have hcell2 : W3.cell? ⟨w.heap.size, 0, none⟩ = some (.slice none 0 0) ∧ W3.frozen? ⟨w.heap.size, 0, none⟩ = false ∧ W3.cell? ⟨w.heap.size + 1, 0, none⟩ = some (.int .i64 0) ∧ W3.frozen? ⟨w.heap.size + 1, 0, none⟩ = false := ⟨HX23.out.cell, HX23.out.frozen, HX33.out.cell, HX33.out.frozen⟩
        obtain ⟨t0, t1, t2, t3⟩ := hcell2
        have hb3' : (b3 == 0) = false := beq_eq_false_iff_ne.2 hb3
        gi_wp2
        refine ⟨trivial, ?_⟩
        gi_wp2
        exact dc_stop HK3.out HX23.out HX33.out HW3.out ⟨x, List.mem_append_right _ (List.mem_singleton.2 rfl), fun h => hb3 (HCG.out.1 h).1⟩
  case done =>
    rintro D ys W hD rfl ⟨⟨⟨v, hv, hrow, -⟩, hx2, hx3, hbs, hbn⟩, hg, hB⟩ hK
    have hlm : l.length = 8 * m := by rw [HN.out]; exact hnm.out
    obtain ⟨e1, e2⟩ := dec_some (by rw [HN.out]; exact hbig) (by rw [HN.out]; exact h8) (dc_all hlm hg)
    have hir : OwnIR w.heap.size W v (chL l (List.finRange m)) := ⟨hrow, fun i hi => by obtain ⟨x, -, rfl⟩ := List.mem_map.1 hi; exact HCO.out x⟩
    obtain ⟨P, hP⟩ : ∃ P, chL l (List.finRange m) = P := ⟨_, rfl⟩
    rw [hP] at hir
    have HP := Lib.hid hP
    obtain ⟨av, cv, rfl, hcv, -⟩ := hir.form
    have HIR := Lib.hid hir
    have HBW := Lib.hid hB
    have hk5 := ((KeepsOthers.setCell W ⟨w.heap.size, 0, none⟩ (.slice av P.length cv)).trans (KeepsOthers.setCell _ ⟨w.heap.size + 1, 0, none⟩ (.int .i64 0))).same D _ hK rfl
    have HK5 := Lib.hid hk5
    have hvc := hv.cell
    have hvf := hv.frozen
    have hc2 := hx2.cell
    have hf2 := hx2.frozen
    have hc3 := hx3.cell
    have hf3 := hx3.frozen
    have X2 := Lib.hid hx2
    have X3 := Lib.hid hx3
    clear hrow hg hP hir hB hk5 hK hx2 hx3 hv
    have hDsz : w.heap.size ≤ D := Nat.le_trans HB5.size hD
    clear hm hnm HB0 HX2 HX3 HX4 HZ0 HBs HBn HA HB5 HCO hD hbs hbn
    gi_wp2
    have hc2' : ((W.setCell ⟨w.heap.size, 0, none⟩ (.slice av P.length cv)).setCell ⟨w.heap.size + 1, 0, none⟩ (.int .i64 0)).cell? ⟨w.heap.size, 0, none⟩ = some (.slice av P.length cv) := ((X2.out.set _).other (by omega) _).cell
    have hc3' : ((W.setCell ⟨w.heap.size, 0, none⟩ (.slice av P.length cv)).setCell ⟨w.heap.size + 1, 0, none⟩ (.int .i64 0)).cell? ⟨w.heap.size + 1, 0, none⟩ = some (.int .i64 0) := ((X3.out.other (by omega) _).set _).cell
    have hir' : OwnIR w.heap.size ((W.setCell ⟨w.heap.size, 0, none⟩ (.slice av P.length cv)).setCell ⟨w.heap.size + 1, 0, none⟩ (.int .i64 0)) (.slice av P.length cv) P := ⟨ownsRow_set (ownsRow_set HIR.out.1 X2.out (by decide) _) (X3.out.other (by omega) _) (by decide) _, HIR.out.2⟩
    have hb' : Below w.heap.size w ((W.setCell ⟨w.heap.size, 0, none⟩ (.slice av P.length cv)).setCell ⟨w.heap.size + 1, 0, none⟩ (.int .i64 0)) := (HBW.out.setCell (p := ⟨w.heap.size, 0, none⟩) (Nat.le_refl _) _).setCell (p := ⟨w.heap.size + 1, 0, none⟩) (Nat.le_succ _) _
    have hK5 := HK5.out
    clear HIR HK5 HBW hvc hvf hc2 hf2 hc3 hf3 X2 X3
    generalize (W.setCell ⟨w.heap.size, 0, none⟩ (.slice av P.length cv)).setCell ⟨w.heap.size + 1, 0, none⟩ (.int .i64 0) = W5 at hc2' hc3' hir' hb' hK5 ⊢
    refine ⟨by simp, .inl ⟨_, _, rfl, run_takeDeferred hK5, .tuple #[.slice av P.length cv, .int .i64 0], ?_, ?_⟩⟩
    · have c2 := cell_putObj (o' := .deferred none) hK5 rfl hc2'
      have c3 := cell_putObj (o' := .deferred none) hK5 rfl hc3'
      simp [results, Tryd.f7, go_sem, c2, c3]
    · rw [e1, e2, HP.out]
      exact ⟨_, rfl, ⟨ownsRow_putObj hir'.1 _ hK5 rfl, hir'.2⟩, hb'.trans (belowK_b (Nat.le_refl _) _ _ _ _ hDsz hK5 rfl rfl)⟩
  case stop =>
    rintro D cc pre W hD ⟨k, hk, rfl⟩ ⟨⟨hx2, hx3⟩, ⟨rfl, hbad⟩, hB⟩ hK
    have hlm : l.length = 8 * m := by rw [HN.out]; exact hnm.out
    obtain ⟨e1, e2⟩ := dec_none (by rw [HN.out]; exact hbig) (by rw [HN.out]; exact h8) (dc_bad hlm m 0 rfl (fun x hx => absurd hx (Nat.not_lt_zero _)) (by obtain ⟨x, -, hx⟩ := hbad; exact ⟨x, hx⟩))
    rw [e1, e2]
    have hc2 := hx2.cell
    have hf2 := hx2.frozen
    have hc3 := hx3.cell
    have hf3 := hx3.frozen
    have HK5 := Lib.hid hK
    have HBW := Lib.hid hB
    clear hK hB
    have hDsz : w.heap.size ≤ D := Nat.le_trans HB5.size hD
    clear hm hnm HB0 HX2 HX3 HX4 HZ0 HBs HBn HA HB5 HCO hD hx2 hx3
    gi_wp2
    have hK5 := HK5.out
    refine ⟨by simp, .inl ⟨_, _, rfl, run_takeDeferred hK5, .tuple #[.slice none 0 0, .int .i64 21], ?_, ?_⟩⟩
    · have c2 := cell_putObj (o' := .deferred none) hK5 rfl hc2
      have c3 := cell_putObj (o' := .deferred none) hK5 rfl hc3
      simp [results, Tryd.f7, go_sem, c2, c3]
    · exact ⟨_, rfl, OwnIR.nil, HBW.out.trans (belowK_b (Nat.le_refl _) _ _ _ _ hDsz hK5 rfl rfl)⟩
end Go.Proofs.YtpdpcgeeneajjaaDoor
