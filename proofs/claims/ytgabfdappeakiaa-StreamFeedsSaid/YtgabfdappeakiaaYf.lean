/- Open and Play of the reference of layer 42. -/
import Derived.Test.YtgabfdappeakiaaTo
import Derived.Test.YtgabfdappeakiaaY2
import Derived.Test.YtgabfdappeakiaaY6a
import Derived.Test.YtgabfdappeakiaaPu
set_option linter.unusedVariables false
set_option linter.unusedSimpArgs false
namespace Go.Proofs.Ytgabfdappeakiaa
open Go.RowKit

/-- One operation that alone may come up. -/
theorem anyH_one {P : Program} {md : Region.Mode} {ops : Array Oper} {Q : Exit → Act → World → Prop} {S : World → Prop} {fuel : Nat} {listed : Array Bool} {a : Act} {w : World} {i : Nat} {o : Oper} (hi : ops[i]? = some o) (hr : Region.ready md ops listed = [i]) (hg : o.guard = none) (hs : ∀ cs b, o.op ≠ .select cs b) (hd : ∀ d, o.dst = some d → d < a.tmps.size)
    (h : wpList P #[o] (fun e c w' => e = .normal ∧ ∃ v, c = a.put o.dst v ∧ (S w' ∧ wpAnyH P md ops Q S fuel (listed.setIfInBounds i true) (a.put o.dst v) w')) [o] a w) : wpAnyH P md ops Q S (fuel + 1) listed a w := by
  refine wpAnyH_all hr (by simp) fun j hj => ?_
  obtain rfl := List.mem_singleton.1 hj
  unfold wpOp
  have hw : Region.wanted o (yielded ops a.tmps) = true := by simp [Region.wanted, hg]
  simp only [hi, hw, if_true]
  exact .inl (wp_move_frame hg hs ⟨rfl, fun _ _ => rfl⟩ hd h (fun v w' h => h))
/-- A change of the world in the blocks K and r alone. -/
structure ChgX (K : Nat → Prop) (r : Option Nat) (w w' : World) : Prop where
  os : w'.os = w.os
  tape : w'.tape = w.tape
  output : w'.output = w.output
  size : w.heap.size ≤ w'.heap.size
  block : ∀ k, k < w.heap.size → ¬ K k → some k ≠ r → w'.heap[k]? = w.heap[k]?
section
variable {K : Nat → Prop}
theorem ChgX.of_below {r : Option Nat} {w w' : World} (h : Below w.heap.size w w') : ChgX K r w w' := ⟨h.os, h.tape, h.output, h.size, fun k hk _ _ => h.block k hk⟩
theorem ChgX.of_grown {r : Option Nat} {w w' : World} (h : w.grownBy w' r) : ChgX K r w w' := ⟨h.os, h.tape, h.output, h.size, fun k hk _ hn => h.block k hk hn⟩
theorem ChgX.of_store {g : Nat} {r : Option Nat} {w w' : World} (h : w.grownBy w' (some g)) (hg : K g) : ChgX K r w w' := ⟨h.os, h.tape, h.output, h.size, fun k hk hn _ => h.block k hk (by intro e; injection e with e; exact hn (e ▸ hg))⟩
theorem ChgX.trans {r : Option Nat} {a b c : World} (h1 : ChgX K r a b) (h2 : ChgX K r b c) : ChgX K r a c := ⟨h2.os.trans h1.os, h2.tape.trans h1.tape, h2.output.trans h1.output, Nat.le_trans h1.size h2.size, fun k hk hn hr => (h2.block k (Nat.lt_of_lt_of_le hk h1.size) hn hr).trans (h1.block k hk hn hr)⟩
theorem ChgX.below {b : Nat} {r : Option Nat} {w w1 w' : World} (h : Below b w w1) (hc : ChgX K r w1 w') (hb : b ≤ w.heap.size) (hg : ∀ k, K k → b ≤ k) (hr : ∀ q, r = some q → b ≤ q) : Below b w w' :=
  ⟨hc.os.trans h.os, hc.tape.trans h.tape, hc.output.trans h.output, Nat.le_trans h.size hc.size, fun k hk => (hc.block k (by have := h.size; omega) (fun hK => by have := hg k hK; omega) (by intro e; have := hr k e.symm; omega)).trans (h.block k hk)⟩
theorem intsX {r : Option Nat} {w w' : World} {A : Option Addr} {l : List Int} (h : Ints w A l) (hc : ChgX K r w w') (hn : l ≠ [] → ∀ a, A = some a → ¬ K a.block ∧ some a.block ≠ r) : Ints w' A l := by
  refine ⟨fun k v hk => ?_, h.2⟩
  obtain ⟨ad, e, h1, h2⟩ := h.1 k v hk
  have hl : l ≠ [] := by rintro rfl; simp at hk
  obtain ⟨n1, n2⟩ := hn hl ad e
  exact ⟨ad, e, Nat.lt_of_lt_of_le h1 hc.size, (World.cell?_of_block (by rw [block_add]; exact hc.block _ h1 n1 n2)).trans h2⟩
/-- A stream that stays one whatever becomes of the blocks K and r. -/
def Rob (K : Nat → Prop) (r : Option Nat) (w : World) (u : StrA) : Prop := ∀ w', ChgX K r w w' → StrAt w' u
theorem Rob.at {r : Option Nat} {w : World} {u : StrA} (h : Rob K r w u) : StrAt w u := h w (ChgX.of_below (Below.refl _ _))
theorem Rob.step {r r' : Option Nat} {w w1 : World} {u : StrA} (h : Rob K r w u) (hc : ChgX K r w w1) (hr : r' = r ∨ ∃ q, r' = some q ∧ w.heap.size ≤ q) : Rob K r' w1 u := fun w' hw => by
  refine h w' ⟨hw.os.trans hc.os, hw.tape.trans hc.tape, hw.output.trans hc.output, Nat.le_trans hc.size hw.size, fun k hk hn hnr => ?_⟩
  have h1 := hc.size
  refine (hw.block k (by omega) hn ?_).trans (hc.block k hk hn hnr)
  rcases hr with rfl | ⟨q, rfl, hq⟩
  · exact hnr
  · intro e; injection e with e; omega
end
def openA (n : NetD) (NA : Option Addr) (nc : Nat) (XA : Option Addr) (xc : Nat) (A : Option Addr) (c : Nat) : StrA := ⟨openD n, NA, XA, none, none, A, none, nc, xc, 0, 0, c, 0⟩
theorem openA_at {w : World} {n : NetD} {NA XA A : Option Addr} {nc xc c : Nat} (hn : NetAt w n NA XA) (hi : Ints w A (List.replicate n.st.toNat 0)) (hl : n.st ≤ 64) : StrAt w (openA n NA nc XA xc A c) :=
  ⟨hn, NetAt.zero, hi, Ints.nil, by show (List.replicate n.st.toNat (0 : Int)).length ≤ _; rw [List.length_replicate]; omega, Nat.zero_le _⟩
def RetOpenR (w : World) (n : NetD) (NA : Option Addr) (nc : Nat) (XA : Option Addr) (xc : Nat) (e : Ending) (w' : World) : Prop := ∃ A c, e = .returned (.tuple #[(openA n NA nc XA xc A c).v, .int .i64 0]) ∧ IntsF w.heap.size w' A (List.replicate n.st.toNat 0) ∧ Below w.heap.size w w'
def orF (b g k : Nat) (n : NetD) (NA : Option Addr) (nc : Nat) (XA : Option Addr) (xc : Nat) : Nat → Value → World → Prop
  | 0, v, _ => v = .agg (n.lst NA nc XA xc).toArray
  | 1, v, _ => v = .pointer (some ⟨g, 8, none⟩)
  | 2, v, _ => v = .int .i64 k
  | 3, v, w => ∃ A, (∃ c, v = .slice A k c) ∧ IntsF b w A (List.replicate k 0)
  | 4, v, w => ∃ A, (∃ c, v = (openA n NA nc XA xc A c).v) ∧ IntsF b w A (List.replicate k 0)
  | _, _, _ => True
theorem orF_keep {b g k : Nat} {n : NetD} {NA : Option Addr} {nc : Nat} {XA : Option Addr} {xc : Nat} {w w' : World} (h : Below w.heap.size w w') : ∀ i v, orF b g k n NA nc XA xc i v w → orF b g k n NA nc XA xc i v w'
  | 0, _, e => e | 1, _, e => e | 2, _, e => e
  | 3, _, ⟨A, e, hi⟩ => ⟨A, e, hi.grow h⟩
  | 4, _, ⟨A, e, hi⟩ => ⟨A, e, hi.grow h⟩
  | _ + 5, _, _ => trivial
set_option maxRecDepth 100000 in
set_option maxHeartbeats 4000000 in
theorem r42_Open (n : NetD) (NA XA : Option Addr) (nc xc : Nat) (w : World) (hn : NetAt w n NA XA) (hok : n.ok = true) : Calls Try.prog 13 #[.agg (n.lst NA nc XA xc).toArray] w (RetOpenR w n NA nc XA xc) := by
  obtain ⟨p1, -, ⟨p2, p3⟩, -⟩ := netB_parts hok
  obtain ⟨k, hk⟩ : ∃ k : Nat, n.st = (k : Int) := ⟨n.st.toNat, by omega⟩
  have CV : Hid (∀ w1, Below w.heap.size w w1 → Calls Try.prog 27 #[.agg (n.lst NA nc XA xc).toArray] w1 fun e w' => e = .returned (.bool true) ∧ Below w1.heap.size w1 w') := fun w1 hb => by
    have h := hn.grow hb
    have := r22_Valid n.d0 n.d1 n.d2 n.d3 n.c0 n.c1 n.c2 n.c3 n.st n.out NA XA nc xc n.ns n.nx w1 h.nodes h.next h.n1 h.n2 h.n3 h.st
    rw [show netB _ _ _ _ _ _ _ _ _ _ _ _ = true from hok] at this; exact this
  have HKK := Lib.hid hk
  have HKN : Hid (n.st.toNat = k) := by show _ = _; omega
  have hk64 : k ≤ 64 := by omega
  clear hn hok hk
  go_enter Try.func13, Try.ntmps13
  go_upto_region 1 with fail
  obtain ⟨bx0, bz0, hb0, hs0⟩ := entryN w n NA nc XA xc _ rfl
  change Code.wp _ _ _ _ ((w.alloc (.cells (n.lst NA nc XA xc).toArray 31)).alloc (.cells StrA.zero.cells.toArray 39))
  generalize ((w.alloc (.cells (n.lst NA nc XA xc).toArray 31)).alloc (.cells StrA.zero.cells.toArray 39)) = W0 at bx0 bz0 hb0 hs0 ⊢
  go_upto_region 3 with (first
    | ((with_reducible show wpList _ _ _ (Oper.mk _ (.load _ _) _ _ _ _ :: _) _ _); refine ld_netB bx0 rfl rfl _ rfl rfl ?_)
    | (go_at_call 27; (with_reducible refine (CV.out _ hb0).mono ?_); rintro e1 w1 ⟨rfl, hb1⟩))
  have hw1 := Lib.hid (below_then hb0 hb1)
  have BX1 := Lib.hid (Box.keep bx0 hb1)
  have BZ1 := Lib.hid (bz0.keep hb1)
  have hs1 : w.heap.size + 2 ≤ w1.heap.size := Nat.le_trans hs0 hb1.size
  clear bx0 bz0 hb0 hb1
  refine wp_region_grow 5 (fun w2 => Below w1.heap.size w1 w2) (fun a b => Below a.heap.size a b) (orF w1.heap.size w.heap.size k n NA nc XA xc) (by kernel_rfl) (by kernel_rfl) (Below.drew (Below.refl _ _)) (fun a b h1 h2 => ⟨below_then h1 h2, fun i _ v => orF_keep h2 i v⟩) ?_ ?_
  · refine ⟨?_, ?_, ?_, ?_, ?_, trivial⟩
    all_goals
      intro vs w2 hp hF
      have BX := Lib.hid (BX1.out.keep hp)
      have HP := Lib.hid hp
      have hc8 : w2.cell? ⟨w.heap.size, 8, none⟩ = some (.int .i64 n.st) := BX.out.2.1 8
      rw [HKK.out] at hc8
      clear hp
      simp [depsB, Region.binds, orF] at hF
      simp [stL, depsB, Region.binds, Act.put, hF]
    · refine ld_netB BX.out rfl rfl _ rfl rfl ?_
      go_wp2_with fail
      exact ⟨rfl, Below.refl _ _⟩
    · go_wp2_with fail
      exact ⟨rfl, Below.refl _ _⟩
    · go_wp2_with fail
      exact ⟨rfl, Below.refl _ _⟩
    · go_wp2_with (at_make; refine mk_int rfl _ _ rfl w2.heap.size k rfl rfl rfl (by omega) (Nat.le_refl _) ?_; intro w4 ho4 hb4; have hk3 : orF w1.heap.size w.heap.size k n NA nc XA xc 3 (.slice (some ⟨w2.heap.size, 0, none⟩) k k) w4 := ⟨_, ⟨k, rfl⟩, (IntsF.own ho4).base HP.out.size⟩)
      all_goals first | exact ⟨hk3, hb4⟩ | trivial
    · obtain ⟨e0, A, ⟨c, e3⟩, hi⟩ := hF
      rw [e3]
      refine wp_bld rfl _ _ rfl _ rfl (built_str n NA nc XA xc A _ c) ?_
      go_wp2_with fail
      refine ⟨⟨A, ⟨c, ?_⟩, hi⟩, Below.refl _ _⟩
      show Value.agg _ = Value.agg (n.lst NA nc XA xc ++ NetD.zero.lst none 0 none 0 ++ [Value.slice A (List.replicate n.st.toNat (0 : Int)).length c, Value.slice none 0 0, Value.int .i64 0, Value.int .i64 0, Value.int .i64 0]).toArray
      rw [List.length_replicate, HKN.out, List.append_assoc]
  intro vs w2 hp hF
  obtain ⟨A, ⟨c, e4⟩, hi⟩ := hF 4 (by decide)
  have bz2 := BZ1.out.keep hp
  have hw2 := below_then hw1.out hp
  have hs2 := hp.size
  simp [stL, Act.put, e4]
  generalize vs 0 = x0
  generalize vs 1 = x1
  generalize vs 2 = x2
  generalize vs 3 = x3
  clear hF e4
  refine st_str (u' := openA n NA nc XA xc A c) bz2 rfl _ _ rfl rfl rfl ?_
  intro W3 bz3 pg3
  go_wp2_with fail
  have hres := res_str bz3
  refine bodyPost_ret (results_ct rfl _ _ _ rfl hres) rfl ?_
  refine ⟨A, c, rfl, ?_, put_facts hw2 (by omega) pg3⟩
  rw [HKN.out]
  exact ((hi.base (b' := w.heap.size + 2) hs1).away pg3 (by omega)).base (by omega)
end Go.Proofs.Ytgabfdappeakiaa
