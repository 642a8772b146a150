/- Several texts in one: Y0 Y1. -/
import Derived.Test.YtgabfdappeakiaaTg
import Derived.Laws.Tables
import Derived.Test.YtgabfdappeakiaaPc
import Derived.Test.YtgabfdappeakiaaTd
import Derived.Test.YtgabfdappeakiaaPu
section
/- A struct literal of many cells; the stream of a network and a state. -/
set_option linter.unusedVariables false
set_option linter.unusedSimpArgs false
namespace Go.Proofs.Ytgabfdappeakiaa
open Go.RowKit

/-- The literal of a struct whose cells are reckoned apart. -/
theorem wp_bld {ops : Array Oper} {rest : List Oper} {o : Oper} {a : Act} {Q : Exit → Act → World → Prop} {w : World} (hgd : o.guard = none) (ty : TypeId) (parts : Array (Nat × Operand)) (ho : o.op = .build ty parts) (ps : List (Nat × Value)) (hp : parts.toList.map (fun p => (p.1, a.eval p.2)) = ps) {cells : Array Value}
    (hb : Try.prog.built ty ps = some cells) (h : wpList Try.prog ops Q rest (a.put o.dst (.agg cells)) w) : wpList Try.prog ops Q (o :: rest) a w := by
  have e : (parts.map fun (i, x) => (i, a.eval x)).toList = ps := by rw [Array.toList_map]; exact hp
  refine wpList_plain hgd fun _ hK => wp_build ty parts ho (by rw [e, hb]; rfl) (hK _ _ ?_)
  rw [e, hb]; exact h
theorem built_str (n : NetD) (NA : Option Addr) (nc : Nat) (XA : Option Addr) (xc : Nat) (A : Option Addr) (k c : Nat) : Try.prog.built 39 [(0, .agg (n.lst NA nc XA xc).toArray), (2, .slice A k c)] =
    some ((n.lst NA nc XA xc ++ NetD.zero.lst none 0 none 0 ++ ([.slice A k c, .slice none 0 0, .int .i64 0, .int .i64 0, .int .i64 0] : List Value)).toArray) := by kernel_rfl
end Go.Proofs.Ytgabfdappeakiaa
end
section
/- The walk of Open of package stream. -/
set_option linter.unusedVariables false
set_option linter.unusedSimpArgs false
namespace Go.Proofs.Ytgabfdappeakiaa
open Go.RowKit

/-- A stream of a network in the state 0. -/
def openD (n : NetD) : StrD := ⟨n, NetD.zero, List.replicate n.st.toNat 0, [], 0, 0, 0⟩
theorem openD_good {n : NetD} (h : n.ok = true) : (openD n).Good := by
  obtain ⟨p1, -, ⟨p2, p3⟩, -⟩ := netB_parts h
  refine ⟨h, state_iff.2 ⟨by show (List.length (List.replicate n.st.toNat (0 : Int)) : Int) = n.st; rw [List.length_replicate]; omega, fun v hv => ?_⟩, (show (0 : Int) ≤ 0 ∧ (0 : Int) ≤ 1099511627776 by decide), (show (0 : Int) ≤ 0 ∧ (0 : Int) ≤ 4096 by decide), (show (0 : Int) ≤ 0 ∧ (0 : Int) ≤ 0 by decide), .inl ⟨rfl, rfl, NetD.isZero_iff.2 rfl, rfl⟩⟩
  rw [(List.mem_replicate.1 hv).2]
  exact fits_0 p1
/-- A cloned network; a row of zeros; a stream, in memory from block b on. -/
def IsNetF (b : Nat) (n : NetD) (v : Value) (w : World) : Prop := ∃ NA nc XA xc, v = .agg (n.lst NA nc XA xc).toArray ∧ NetF b w n NA XA
def IsIntsF (b : Nat) (l : List Int) (v : Value) (w : World) : Prop := ∃ A c, v = .slice A l.length c ∧ IntsF b w A l
def IsStrF (b : Nat) (d : StrD) (v : Value) (w : World) : Prop := ∃ u : StrA, v = u.v ∧ u.d = d ∧ StrF b w u
def opF (b g : Nat) (n : NetD) (nv : Value) : Nat → Value → World → Prop
  | 0, v, _ => v = nv
  | 1, v, w => IsNetF b n v w
  | 2, v, _ => v = .pointer (some ⟨g, 8, none⟩)
  | 3, v, _ => v = .int .i64 n.st
  | 4, v, w => IsIntsF b (List.replicate n.st.toNat 0) v w
  | 5, v, w => IsStrF b (openD n) v w
  | _, _, _ => True
theorem opF_keep {b g : Nat} {n : NetD} {nv : Value} {w w' : World} (h : Below w.heap.size w w') : ∀ i v, opF b g n nv i v w → opF b g n nv i v w'
  | 0, _, e => e | 2, _, e => e | 3, _, e => e
  | 1, _, ⟨NA, nc, XA, xc, e, hn⟩ => ⟨NA, nc, XA, xc, e, hn.grow h⟩
  | 4, _, ⟨A, c, e, hi⟩ => ⟨A, c, e, hi.grow h⟩
  | 5, _, ⟨u, e, hd, hf⟩ => ⟨u, e, hd, hf.grow h⟩
  | _ + 6, _, _ => trivial
def RetOpen (w : World) (n : NetD) (e : Ending) (w' : World) : Prop := ∃ u : StrA, e = .returned (.tuple #[u.v, .int .i64 0]) ∧ u.d = openD n ∧ StrF w.heap.size w' u ∧ Below w.heap.size w w'
theorem entryN (w : World) (n : NetD) (NA : Option Addr) (nc : Nat) (XA : Option Addr) (xc : Nat) : ∀ W, W = ((w.alloc (.cells (n.lst NA nc XA xc).toArray 31)).alloc (.cells StrA.zero.cells.toArray 39)) →
    Box W w.heap.size (n.lst NA nc XA xc) ∧ StrBox W (w.heap.size + 1) StrA.zero ∧ Below w.heap.size w W ∧ w.heap.size + 2 ≤ W.heap.size := fun W hW => by
  subst hW
  exact ⟨Box.alloc (Box.new rfl) _, Box.new (by simp), ((Below.refl w.heap.size w).alloc (Nat.le_refl _) _).alloc (by simp) _, by simp⟩
theorem ld_netB {ops : Array Oper} {rest : List Oper} {o : Oper} {a : Act} {Q : Exit → Act → World → Prop} {w : World} {cs : List Value} {g : Nat} (hb : Box w g cs) (hl : cs.length = 12) (hgd : o.guard = none) (x : Operand) (ho : o.op = .load 31 x) (hx : a.eval x = .pointer (some ⟨g, 0, none⟩)) (h : wpList Try.prog ops Q rest (a.put o.dst (.agg cs.toArray)) w) : wpList Try.prog ops Q (o :: rest) a w := by
  obtain ⟨d, h1, h2⟩ := row_net
  exact wp_ld hgd _ x ho g 0 hx hb cs (fun j v hj => by rw [Nat.zero_add]; exact hj) d h1 h2 (by rw [hl]; exact size_net) h
set_option maxRecDepth 100000 in
set_option maxHeartbeats 4000000 in
theorem st_Open (n : NetD) (NA XA : Option Addr) (nc xc : Nat) (w : World) (hn : NetAt w n NA XA) (hok : n.ok = true) : Calls Try.prog 12 #[.agg (n.lst NA nc XA xc).toArray] w (RetOpen w n) := by
  obtain ⟨p1, -, ⟨p2, p3⟩, -⟩ := netB_parts hok
  obtain ⟨k, hk⟩ : ∃ k : Nat, n.st = (k : Int) := ⟨n.st.toNat, by omega⟩
  have CV : Hid (∀ w1, Below w.heap.size w w1 → Calls Try.prog 23 #[.agg (n.lst NA nc XA xc).toArray] w1 fun e w' => e = .returned (.bool true) ∧ Below w1.heap.size w1 w') := fun w1 hb => by
    have h := hn.grow hb
    have := nw_Valid n.d0 n.d1 n.d2 n.d3 n.c0 n.c1 n.c2 n.c3 n.st n.out NA XA nc xc n.ns n.nx w1 h.nodes h.next h.n1 h.n2 h.n3 h.st
    rw [show netB _ _ _ _ _ _ _ _ _ _ _ _ = true from hok] at this; exact this
  have CN : Hid (∀ w1, Below w.heap.size w w1 → Calls Try.prog 26 #[.agg (n.lst NA nc XA xc).toArray] w1 fun e w' => ∃ NB nb XB xb, e = .returned (.agg (n.lst NB nb XB xb).toArray) ∧ NetF w1.heap.size w' n NB XB ∧ NetT w' n NB XB ∧ Below w1.heap.size w1 w') := fun w1 hb => st_cloneNet n NA XA nc xc w1 (hn.grow hb) hok
  have HKK := Lib.hid hk
  have hk64 : k ≤ 64 := by omega
  clear hn hok hk
  go_enter Try.func12, Try.ntmps12
  go_upto_region 1 with fail
  obtain ⟨bx0, bz0, hb0, hs0⟩ := entryN w n NA nc XA xc _ rfl
  change Code.wp _ _ _ _ ((w.alloc (.cells (n.lst NA nc XA xc).toArray 31)).alloc (.cells StrA.zero.cells.toArray 39))
  generalize ((w.alloc (.cells (n.lst NA nc XA xc).toArray 31)).alloc (.cells StrA.zero.cells.toArray 39)) = W0 at bx0 bz0 hb0 hs0 ⊢
  go_upto_region 3 with (first
    | ((with_reducible show wpList _ _ _ (Oper.mk _ (.load _ _) _ _ _ _ :: _) _ _); refine ld_netB bx0 rfl rfl _ rfl rfl ?_)
    | (go_at_call 23; (with_reducible refine (CV.out _ hb0).mono ?_); rintro e1 w1 ⟨rfl, hb1⟩))
  have hw1 := Lib.hid (below_then hb0 hb1)
  have BX1 := Lib.hid (Box.keep bx0 hb1)
  have BZ1 := Lib.hid (bz0.keep hb1)
  have hs1 : w.heap.size + 2 ≤ w1.heap.size := Nat.le_trans hs0 hb1.size
  clear bx0 bz0 hb0 hb1
  refine wp_region_grow 6 (fun w2 => Below w1.heap.size w1 w2) (fun a b => Below a.heap.size a b) (opF w1.heap.size w.heap.size n (.agg (n.lst NA nc XA xc).toArray)) (by kernel_rfl) (by kernel_rfl) (Below.drew (Below.refl _ _)) (fun a b h1 h2 => ⟨below_then h1 h2, fun i _ v => opF_keep h2 i v⟩) ?_ ?_
  · refine ⟨?_, ?_, ?_, ?_, ?_, ?_, trivial⟩
    all_goals
      intro vs w2 hp hF
      have BX := Lib.hid (BX1.out.keep hp)
      have HP := Lib.hid hp
      have hc8 : w2.cell? ⟨w.heap.size, 8, none⟩ = some (.int .i64 n.st) := BX.out.2.1 8
      rw [HKK.out] at hc8
      clear hp
      simp [depsB, Region.binds, opF] at hF
      try rw [HKK.out] at hF
      simp [stL, depsB, Region.binds, Act.put, hF]
    · refine ld_netB BX.out rfl rfl _ rfl rfl ?_
      go_wp2_with fail
      exact ⟨rfl, Below.refl _ _⟩
    · go_wp2_with fail
      refine (CN.out _ (below_then hw1.out HP.out)).mono ?_
      rintro e2 w3 ⟨NB, nb, XB, xb, rfl, hf, -, hb3⟩
      go_wp2_with fail
      exact ⟨NB, nb, XB, xb, rfl, hf.base HP.out.size⟩
    · go_wp2_with fail
      exact ⟨rfl, Below.refl _ _⟩
    · go_wp2_with fail
      exact ⟨by show _ = _; rw [HKK.out], Below.refl _ _⟩
    · go_wp2_with (at_make; refine mk_int rfl _ _ rfl w2.heap.size k rfl rfl rfl (by omega) (Nat.le_refl _) ?_; intro w4 ho4 hb4)
      refine ⟨some ⟨w2.heap.size, 0, none⟩, k, ?_, ?_⟩
      · rw [List.length_replicate, HKK.out]; rfl
      · rw [HKK.out]; exact (IntsF.own ho4).base HP.out.size
    · obtain ⟨⟨NB, nb, XB, xb, e1, hf⟩, A, c, e4, hi⟩ := hF
      rw [e1, e4]
      refine wp_bld rfl _ _ rfl _ rfl (built_str n NB nb XB xb A _ c) ?_
      go_wp2_with fail
      have hl : (List.replicate n.st.toNat (0 : Int)).length = k := by rw [List.length_replicate, HKK.out]; rfl
      refine ⟨⟨⟨openD n, NB, XB, none, none, A, none, nb, xb, 0, 0, c, 0⟩, ?_, rfl, hf, NetF.zero, ?_, IntsF.nil, ?_, Nat.zero_le _⟩, Below.refl _ _⟩
      · show Value.agg _ = Value.agg (n.lst NB nb XB xb ++ NetD.zero.lst none 0 none 0 ++ [Value.slice A (List.replicate n.st.toNat (0 : Int)).length c, Value.slice none 0 0, Value.int .i64 0, Value.int .i64 0, Value.int .i64 0]).toArray
        rw [hl, List.append_assoc]
      · show IntsF _ _ A (List.replicate n.st.toNat 0)
        rw [HKK.out]; exact hi
      · show (List.replicate n.st.toNat (0 : Int)).length ≤ _
        rw [hl]; omega
  intro vs w2 hp hF
  obtain ⟨u, e5, hd, hf⟩ := hF 5 (by decide)
  have bz2 := BZ1.out.keep hp
  have hw2 := below_then hw1.out hp
  have hs2 := hp.size
  simp [stL, Act.put, e5]
  generalize vs 0 = x0
  generalize vs 1 = x1
  generalize vs 2 = x2
  generalize vs 3 = x3
  generalize vs 4 = x4
  clear hF e5
  refine st_str bz2 rfl _ _ rfl rfl rfl ?_
  intro W3 bz3 pg3
  go_wp2_with fail
  have hres := res_str bz3
  refine bodyPost_ret (results_ct rfl _ _ _ rfl hres) rfl ?_
  exact ⟨u, rfl, hd, (hf.base (b' := w.heap.size + 2) hs1).away pg3 (by omega) |>.base (by omega), put_facts hw2 (by omega) pg3⟩
end Go.Proofs.Ytgabfdappeakiaa
end
