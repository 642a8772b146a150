/- Package direct: FormTwo. -/
import Derived.Test.YtdiflpbioohddaaDoortTitoCn
import Derived.Test.YtdiflpbioohddaaDoortH2
import Derived.Test.YtdiflpbioohddaaDoortG9toVc
set_option linter.unusedVariables false
set_option linter.unusedSimpArgs false
namespace Go.Proofs.YtdiflpbioohddaaDoor
open Go.RowKit
def RetND (w : World) (n : NetD) (E : Int) (e : Ending) (w' : World) : Prop := ∃ (NA : Option Addr) (nc : Nat) (XA : Option Addr) (xc : Nat), e = .returned (.tuple #[.agg (n.lst NA nc XA xc).toArray, .int .i64 E]) ∧ NetF w.heap.size w' n NA XA ∧ Below w.heap.size w w'
def TermsF (b : Nat) (w : World) (A : Option Addr) (ts : List (Int × Int)) : Prop := TermsAt w A ts ∧ ∀ a, A = some a → b ≤ a.block
theorem TermsF.grow {b : Nat} {w w' : World} {A : Option Addr} {ts : List (Int × Int)} (h : TermsF b w A ts) (hb : Below w.heap.size w w') : TermsF b w' A ts := ⟨h.1.grow hb, h.2⟩
theorem TermsF.own {b n c : Nat} {w : World} {A : Option Addr} {ts : List (Int × Int)} (h : OwnTm b w (.slice A n c) ts) (ht : TermsAt w A ts) : TermsF b w A ts := ⟨ht, fun a e => by subst e; exact (h.1.lt a.block rfl).1⟩
theorem own_type {base g n c : Nat} {w : World} {l : List Int} {q : Nat} {cs : Array Value} {t : TypeId} (h : Own base w (.slice (some ⟨g, 0, none⟩) n c) l) (hq : w.heap[q]? = some (.cells cs t (0, 0))) (ht : t ≠ 3) : q ≠ g := fun e => by
 subst e
 obtain ⟨cur, h1, -⟩ := own_cur h
 rw [hq] at h1
 injection h1 with h1
 injection h1 with _ h1
 exact ht h1
def zNet12 : List Value := [.int .i64 0, .int .i64 0, .int .i64 0, .int .i64 0, .int .i64 0, .int .i64 0, .int .i64 0, .int .i64 0, .int .i64 0, .slice none 0 0, .slice none 0 0, .int .i64 0]
def netL (d c : Int × Int × Int × Int) (st : Int) (N X : Value) (out : Int) : List Value := [.int .i64 d.1, .int .i64 d.2.1, .int .i64 d.2.2.1, .int .i64 d.2.2.2, .int .i64 c.1, .int .i64 c.2.1, .int .i64 c.2.2.1, .int .i64 c.2.2.2, .int .i64 st, N, X, .int .i64 out]
def ftF (b S : Nat) (d c : Int × Int × Int × Int) : Nat → Value → World → Prop
 | 0, v, _ => v = wordV d.1 d.2.1 d.2.2.1 d.2.2.2
 | 1, v, _ => v = wordV c.1 c.2.1 c.2.2.1 c.2.2.2
 | 2, v, _ | 3, v, _ => v = .int .i64 (S : Int)
 | 4, v, w => ∃ h, v = .slice (some ⟨h, 0, none⟩) S S ∧ Own b w (.slice (some ⟨h, 0, none⟩) S S) (List.replicate S 0)
 | 5, v, _ => v = .int .i64 ((S : Int) + 1)
 | 6, v, _ => v = .int .i64 ((S : Int) + 2)
 | 7, v, w => ∃ h, v = .agg (netL d c (S : Int) (.slice none 0 0) (.slice (some ⟨h, 0, none⟩) S S) ((S : Int) + 2)).toArray ∧ Own b w (.slice (some ⟨h, 0, none⟩) S S) (List.replicate S 0)
 | 8, v, w => ∃ g, v = .pointer (some ⟨g, 0, none⟩) ∧ b ≤ g ∧ w.heap[g]? = some (.cells zNet12.toArray 27 (0, 0))
 | _, _, _ => True
theorem ftF_keep {b S : Nat} {d c : Int × Int × Int × Int} {w w' : World} (h : Below w.heap.size w w') : ∀ i v, ftF b S d c i v w → ftF b S d c i v w'
 | 0, _, e | 1, _, e | 2, _, e | 3, _, e | 5, _, e | 6, _, e => e
 | 4, _, ⟨g, e, ho⟩ | 7, _, ⟨g, e, ho⟩ => ⟨g, e, ho.grow h⟩
 | 8, _, ⟨g, e, hb, hh⟩ => ⟨g, e, hb, heap_keep h hh⟩
 | _ + 9, _, _ => trivial
theorem nodesF_two {b : Nat} {w : World} {A2 A3 : Option Addr} {c2 c3 n2 n3 : Nat} {r2 r3 : List (Int × Int)} {t : TypeId} (hb : b ≤ w.heap.size) (h2 : TermsF b (w.alloc (.cells #[.slice A2 n2 c2, .slice A3 n3 c3] t)) A2 r2) (h3 : TermsF b (w.alloc (.cells #[.slice A2 n2 c2, .slice A3 n3 c3] t)) A3 r3) (l2 : r2.length = n2) (l3 : r3.length = n3) :
  NodesF b (w.alloc (.cells #[.slice A2 n2 c2, .slice A3 n3 c3] t)) (some ⟨w.heap.size, 0, none⟩) [r2, r3] := fun k ts hk => by
 subst l2 l3
 match k, hk with
 | 0, hk =>
  simp at hk; subst hk
  exact ⟨_, A2, c2, rfl, hb, by simp, by simp [go_sem, Addr.add], h2.1, fun _ => h2.2⟩
 | 1, hk =>
  simp at hk; subst hk
  exact ⟨_, A3, c3, rfl, hb, by simp, by simp [go_sem, Addr.add], h3.1, fun _ => h3.2⟩
def fuF (b g I cb K ca S : Nat) (U B A : Value) (bt bd : List Int) (r1 r2 r3 r4 : List (Int × Int)) : Nat → Value → World → Prop
 | 0, v, _ => v = U
 | 1, v, w => ∃ A c, v = .slice A r1.length c ∧ TermsF b w A r1
 | 2, v, _ => v = A
 | 3, v, w => ∃ A c, v = .slice A r2.length c ∧ TermsF b w A r2
 | 4, v, w => ∃ p, v = .slice (some ⟨p, 0, none⟩) 2 2 ∧ NodesAt w (some ⟨p, 0, none⟩) [r1, r2]
 | 5, v, w => ∃ A c, v = .slice A (r1 ++ r2).length c ∧ TermsF b w A (r1 ++ r2)
 | 6, v, w => ∃ A c, v = .agg #[.slice A (r1 ++ r2).length c] ∧ TermsF b w A (r1 ++ r2)
 | 7, v, _ | 11, v, _ => v = B
 | 8, v, w => ∃ A, v = .slice A 1 cb ∧ Ints w A bt
 | 9, v, _ => v = .int .i64 ((S : Int) + 1)
 | 10, v, w => ∃ A c, v = .slice A r3.length c ∧ TermsF b w A r3
 | 12, v, w => ∃ A c, v = .slice A I c ∧ Ints w A bd
 | 13, v, w => ∃ A c, v = .slice A r4.length c ∧ TermsF b w A r4
 | 14, v, w => ∃ p, v = .slice (some ⟨p, 0, none⟩) 2 2 ∧ NodesAt w (some ⟨p, 0, none⟩) [r3, r4]
 | 15, v, w => ∃ A c, v = .slice A (r3 ++ r4).length c ∧ TermsF b w A (r3 ++ r4)
 | 16, v, w => ∃ A c, v = .agg #[.slice A (r3 ++ r4).length c] ∧ TermsF b w A (r3 ++ r4)
 | 17, v, w => ∃ p, v = .slice (some ⟨p, 0, none⟩) 2 2 ∧ NodesF b w (some ⟨p, 0, none⟩) [r1 ++ r2, r3 ++ r4]
 | 18, v, _ => v = .pointer (some ⟨g, 9, none⟩)
 | _, _, _ => True
theorem fuF_keep {b g I cb K ca S : Nat} {U B A : Value} {bt bd : List Int} {r1 r2 r3 r4 : List (Int × Int)} {w w' : World} (h : Below w.heap.size w w') : ∀ i v, fuF b g I cb K ca S U B A bt bd r1 r2 r3 r4 i v w → fuF b g I cb K ca S U B A bt bd r1 r2 r3 r4 i v w'
 | 0, _, e | 2, _, e | 7, _, e | 9, _, e | 11, _, e | 18, _, e => e
 | 1, _, ⟨A, c, e, ht⟩ | 3, _, ⟨A, c, e, ht⟩ | 5, _, ⟨A, c, e, ht⟩ | 6, _, ⟨A, c, e, ht⟩ | 10, _, ⟨A, c, e, ht⟩ | 13, _, ⟨A, c, e, ht⟩ | 15, _, ⟨A, c, e, ht⟩ | 16, _, ⟨A, c, e, ht⟩ => ⟨A, c, e, ht.grow h⟩
 | 4, _, ⟨p, e, hn⟩ | 14, _, ⟨p, e, hn⟩ => ⟨p, e, hn.grow h⟩
 | 8, _, ⟨A, e, hi⟩ => ⟨A, e, hi.grow h⟩
 | 12, _, ⟨A, c, e, hi⟩ => ⟨A, c, e, hi.grow h⟩
 | 17, _, ⟨p, e, hn⟩ => ⟨p, e, hn.grow h⟩
 | _ + 19, _, _ => trivial
theorem built_net5 (d0 d1 d2 d3 c0 c1 c2 c3 st out : Int) (V : Option Addr) (n m : Nat) : Tryd.prog.built 27 [(0, wordV d0 d1 d2 d3), (1, wordV c0 c1 c2 c3), (2, .int .i64 st), (4, .slice V n m), (5, .int .i64 out)] = some (netL (d0, d1, d2, d3) (c0, c1, c2, c3) st (.slice none 0 0) (.slice V n m) out).toArray := by kernel_rfl
theorem st_netL {ops : Array Oper} {rest : List Oper} {o : Oper} {a : Act} {Q : Exit → Act → World → Prop} {w : World} {L M : List Value} {g : Nat} (hb : Box w g M) (hM : M.length = 12) (hL : L.length = 12) (h1 : L.all (·.oneCell') = true) (hgd : o.guard = none) (x y : Operand) (ho : o.op = .store 27 x y) (hx : a.eval x = .pointer (some ⟨g, 0, none⟩)) (hy : a.eval y = .agg L.toArray)
  (h : ∀ W1, Box W1 g L → w.grownBy W1 (some g) → wpList Tryd.prog ops Q rest (a.put o.dst undef) W1) : wpList Tryd.prog ops Q (o :: rest) a w :=
 wp_st hgd _ x y ho g 0 L hx hy (by rw [hL]; exact size_net) h1 hb (by rw [hM, hL]; exact Nat.le_refl _) (by rw [List.take_zero, List.nil_append, List.drop_eq_nil_of_le (by rw [hM, hL]; exact Nat.le_refl _), List.append_nil]) h
set_option maxRecDepth 100000 in
set_option maxHeartbeats 8000000 in
theorem dr_FormTwo (A B : Option Addr) (ca cb I K S : Nat) (a b : List Int) (d c : Int × Int × Int × Int) (w : World) (hA : Ints w A a) (hB : Ints w B b) (ha : a.length = K) (hb : b.length = I + 1) (hcb : I + 1 ≤ cb) (hS : S = max I K)
  (hd : okW d.1 d.2.1 d.2.2.1 d.2.2.2 = true) (hc : okW c.1 c.2.1 c.2.2.1 c.2.2.2 = true) (hn : I ≤ 48 ∧ K ≤ 8) (fb : ∀ v ∈ b, fitsW c.1 c.2.1 c.2.2.1 c.2.2.2 v = true) (fa : ∀ v ∈ a, fitsW c.1 c.2.1 c.2.2.1 c.2.2.2 v = true ∧ fitsW c.1 c.2.1 c.2.2.1 c.2.2.2 (-v) = true) :
  Calls Tryd.prog 46 #[.slice B (I + 1) cb, .slice A K ca, wordV d.1 d.2.1 d.2.2.1 d.2.2.2, wordV c.1 c.2.1 c.2.2.1 c.2.2.2] w (RetND w ⟨d.1, d.2.1, d.2.2.1, d.2.2.2, c.1, c.2.1, c.2.2.1, c.2.2.2, (S : Int), (S : Int) + 2, twoNs b a (2 ^ c.2.1.toNat) S, twoNx S⟩ 0) := by
 have QW : Hid (∀ w1, Below w.heap.size w w1 → Calls Tryd.prog 62 #[.slice B (I + 1) cb, .slice A K ca, wordV d.1 d.2.1 d.2.2.1 d.2.2.2, wordV c.1 c.2.1 c.2.2.1 c.2.2.2] w1 fun e w' => e = .returned (.int .i64 0) ∧ Below w1.heap.size w1 w') := fun w1 h => dr_wrong A B ca cb K (I + 1) a b d c w1 (hA.grow h) (hB.grow h) ha hb hd hc (by omega) fb fa
 obtain ⟨n1, n2⟩ := hn
 obtain ⟨o1, o2, o3, o4, -⟩ := okW_iff.1 hc
 have HLA := Lib.hid ha
 have HLB := Lib.hid hb
 have HA := Lib.hid hA
 have HB := Lib.hid hB
 obtain ⟨d0, d1, d2, d3⟩ := d
 obtain ⟨c0, c1, c2, c3⟩ := c
 simp only at QW o1 o2 o3 o4 ⊢
 have hmx : max ((I : Int)) (K : Int) = (S : Int) := by omega
 have hS56 : S ≤ 48 := by omega
 have HSM := Lib.hid hS
 have H23 := Lib.hid (unit_23 hc).2
 clear hd hc fb fa ha hb hA hB hS
 go_enter Tryd.func46, Tryd.ntmps46
 go_upto_region 1 with fail
 obtain ⟨⟨b0, b1⟩, b2, hb0⟩ := entry3b (t := 23) (u := 23) (v := 27) w [.int .i64 d0, .int .i64 d1, .int .i64 d2, .int .i64 d3] [.int .i64 c0, .int .i64 c1, .int .i64 c2, .int .i64 c3] zNet12 _ rfl
 change Code.wp _ _ _ _ (((w.alloc (.cells [.int .i64 d0, .int .i64 d1, .int .i64 d2, .int .i64 d3].toArray 23)).alloc (.cells [.int .i64 c0, .int .i64 c1, .int .i64 c2, .int .i64 c3].toArray 23)).alloc (.cells zNet12.toArray 27))
 generalize (((w.alloc (.cells [.int .i64 d0, .int .i64 d1, .int .i64 d2, .int .i64 d3].toArray 23)).alloc (.cells [.int .i64 c0, .int .i64 c1, .int .i64 c2, .int .i64 c3].toArray 23)).alloc (.cells zNet12.toArray 27)) = W1 at b0 b1 b2 hb0 ⊢
 obtain ⟨z0, z1, z2, z3⟩ := b0.c4
 obtain ⟨y0, y1, y2, y3⟩ := b1.c4
 have B0 := Lib.hid b0
 have B1 := Lib.hid b1
 have B2 := Lib.hid b2
 have HW1 := Lib.hid hb0
 clear b0 b1 b2 hb0
 go_upto_region 6 with (go_at_call 62; (with_reducible refine (QW.out _ HW1.out).mono ?_); rintro e2 w2 ⟨rfl, hb2⟩; have HB2 := Lib.hid hb2; clear hb2)
 have HW2 := Lib.hid (below_then HW1.out HB2.out)
 have D0 := Lib.hid (B0.out.keep HB2.out)
 have D1 := Lib.hid (B1.out.keep HB2.out)
 have D2 := Lib.hid (B2.out.keep HB2.out)
 clear HB2 HW1 B0 B1 B2 QW z0 z1 z2 z3 y0 y1 y2 y3
 have ws : IntKind.i64.wrap ((S : Int) + 1) = (S : Int) + 1 := IntWalk.i64_in _ (by omega)
 have ws2 : IntKind.i64.wrap ((S : Int) + 1 + 1) = (S : Int) + 2 := (IntWalk.i64_in _ (by omega)).trans (by omega)
 have ws3 : IntKind.i64.wrap ((S : Int) + 2) = (S : Int) + 2 := IntWalk.i64_in _ (by omega)
 refine wp_region_grow2 (fun i => Nat.blt i 9) (fun _ => false) (fun w3 => Below w2.heap.size w2 w3) (fun a b => Below a.heap.size a b) (ftF w2.heap.size S (d0, d1, d2, d3) (c0, c1, c2, c3)) (by kernel_rfl) (by kernel_rfl) (Below.refl _ _).drew (fun a b h1 h2 => ⟨below_then h1 h2, fun i _ v => ftF_keep h2 i v⟩) (fun _ _ => Below.refl _ _) ?_ (fun _ _ _ _ h => by cases h) ?_
 ·refine ⟨?_, ?_, ?_, ?_, ?_, ?_, ?_, ?_, ?_, trivial⟩
  all_goals
   intro vs w3 hp hF
   obtain ⟨z0, z1, z2, z3⟩ := (D0.out.keep hp).c4
   obtain ⟨y0, y1, y2, y3⟩ := (D1.out.keep hp).c4
   simp [depsB, Region.binds, ftF] at hF
   simp [stL, depsB, Region.binds, Act.put, hF]
  all_goals try (go_wp2_with fail; exact ⟨rfl, Below.refl _ _⟩)
  ·refine mk_int rfl _ _ rfl w3.heap.size S rfl rfl rfl (by omega) (Nat.le_refl _) ?_
   intro w6 ho6 hb6
   exact wpList_nil ⟨rfl, _, rfl, ⟨_, rfl, ho6.base hp.size⟩, hb6⟩
  ·obtain ⟨-, -, -, ⟨h, e4, ho⟩, -⟩ := hF
   rw [e4]
   refine wp_bldR rfl 27 _ rfl _ rfl (built_net5 d0 d1 d2 d3 c0 c1 c2 c3 (S : Int) ((S : Int) + 2) (some ⟨h, 0, none⟩) S S) ?_
   exact wpList_nil ⟨rfl, _, rfl, ⟨h, rfl, ho⟩, Below.refl _ _⟩
  ·go_wp2_with fail
   exact ⟨⟨_, rfl, hp.size, heap_new _ _⟩, Below.alloc (Below.refl _ _) (Nat.le_refl _) _⟩
 intro vs w3 hp hF
 have e7 := hF 7 (by decide) rfl
 have e8 := hF 8 (by decide) rfl
 obtain ⟨h, e7, ho3⟩ := e7
 obtain ⟨g, e8, hgb, hgh⟩ := e8
 show wpList Tryd.prog _ _ [_] _ _
 simp [stL, Act.put, e7, e8]
 generalize vs 0 = x10
 generalize vs 1 = x11
 generalize vs 2 = x12
 generalize vs 3 = x13
 generalize vs 4 = x14
 generalize vs 5 = x15
 generalize vs 6 = x16
 have hne := own_type ho3 hgh (by decide)
 refine st_netL (box_heap hgh) rfl (L := netL (d0, d1, d2, d3) (c0, c1, c2, c3) (S : Int) (.slice none 0 0) (.slice (some ⟨h, 0, none⟩) S S) ((S : Int) + 2)) rfl rfl rfl _ _ rfl rfl rfl ?_
 intro W4 hbx hgx
 have HG4 := Lib.hid hbx
 have HO4 : Hid (Own w2.heap.size W4 (.slice (some ⟨h, 0, none⟩) S S) (List.replicate S 0)) := Lib.hid ⟨ho3.1.kept hgx (.inr (fun e => hne (by injection e with e; exact e.symm))), ho3.2⟩
 have HB4 := Lib.hid (grown_to hp hgx hgb)
 have HNE := Lib.hid hne
 have HGB := Lib.hid hgb
 clear hF e7 e8 hgh hgb hbx hgx ho3 hp hne
 obtain ⟨y0, y1, y2, y3⟩ := (D1.out.keep HB4.out).c4
 obtain ⟨Q, hQ⟩ : ∃ Q, (2 : Int) ^ c1.toNat = Q := ⟨_, rfl⟩
 have q0 : 0 < Q := by rw [← hQ]; exact pow_pos' _
 have q1 : IntKind.i64.wrap ((2 : Int) ^ c1.toNat) = Q := by rw [← hQ]; exact IntWalk.i64_in _ (by have := pow_pos' c1.toNat; have := pow_62 (n := c1.toNat) (by omega); omega)
 have q3 : Q ≤ 8388608 := by rw [← hQ]; exact H23.out
 have q2 : wrap64 Q = Q := by unfold wrap64; omega
 have HQ := Lib.hid hQ
 have o5 : c1.toNat ≤ 61 := by omega
 go_upto_region 8 with fail
 have hU : Ints (W4.alloc (.cells #[.int .i64 Q] 3)) (some ⟨W4.heap.size, 0, none⟩) [Q] := lit_one ⟨by omega, by omega⟩
 have hnb : Below W4.heap.size W4 (W4.alloc (.cells #[.int .i64 Q] 3)) := (Below.refl _ _).alloc (Nat.le_refl _) _
 obtain ⟨ug, hug⟩ : ∃ k, k = W4.heap.size := ⟨_, rfl⟩
 rw [← hug] at hU ⊢
 have hW5 := below_then HB4.out hnb
 have HBW5 := Lib.hid (below_then HW2.out hW5)
 have hgx : Box (W4.alloc (.cells #[.int .i64 Q] 3)) g (netL (d0, d1, d2, d3) (c0, c1, c2, c3) (S : Int) (.slice none 0 0) (.slice (some ⟨h, 0, none⟩) S S) ((S : Int) + 2)) := HG4.out.keep hnb
 have hox := HO4.out.grow hnb
 generalize W4.alloc (.cells #[.int .i64 Q] 3) = W5 at hU hnb hW5 HBW5 hgx hox ⊢
 have HU := Lib.hid hU
 have HG5 := Lib.hid hgx
 have HO5 := Lib.hid hox
 have HW5 := Lib.hid hW5
 clear hU hnb hW5 hgx hox hug HO4 HG4 HB4 y0 y1 y2 y3 ws ws2 ws3
 obtain ⟨r1, hr1⟩ : ∃ r, rowF [Q] 1 0 1 = r := ⟨_, rfl⟩
 obtain ⟨r2, hr2⟩ : ∃ r, rowF a (-1) 1 K = r := ⟨_, rfl⟩
 obtain ⟨r3, hr3⟩ : ∃ r, rowF (b.take 1) 1 ((S : Int) + 1) 1 = r := ⟨_, rfl⟩
 obtain ⟨r4, hr4⟩ : ∃ r, rowF (b.drop 1) 1 1 I = r := ⟨_, rfl⟩
 have hb1 : (b.take 1).length = 1 := by rw [List.length_take, HLB.out]; omega
 have hb2 : (b.drop 1).length = I := by rw [List.length_drop, HLB.out]; omega
 have l1 : r1.length = 1 := by rw [← hr1, rowF_length]; rfl
 have l2 : r2.length = K := by rw [← hr2, rowF_length]; exact HLA.out
 have l3 : r3.length = 1 := by rw [← hr3, rowF_length]; exact hb1
 have l4 : r4.length = I := by rw [← hr4, rowF_length]; exact hb2
 have R1 : Hid (∀ w1, Below W5.heap.size W5 w1 → Calls Tryd.prog 64 #[.slice (some ⟨ug, 0, none⟩) 1 1, .int .i64 1, .int .i64 0] w1 (RetTm w1 r1)) := fun w1 hb => by rw [← hr1]; exact dr_row _ 1 1 [Q] 1 0 w1 (HU.out.grow hb) rfl (by omega)
 have R2 : Hid (∀ w1, Below W5.heap.size W5 w1 → Calls Tryd.prog 64 #[.slice A K ca, .int .i64 (-1), .int .i64 1] w1 (RetTm w1 r2)) := fun w1 hb => by rw [← hr2]; exact dr_row A ca K a (-1) 1 w1 ((HA.out.grow HBW5.out).grow hb) HLA.out (by omega)
 have R3 : Hid (∀ A1 w1, Ints w1 A1 (b.take 1) → Calls Tryd.prog 64 #[.slice A1 1 cb, .int .i64 1, .int .i64 ((S : Int) + 1)] w1 (RetTm w1 r3)) := fun A1 w1 hi => by rw [← hr3]; exact dr_row A1 cb 1 (b.take 1) 1 _ w1 hi hb1 (by omega)
 have R4 : Hid (∀ A1 c1 w1, Ints w1 A1 (b.drop 1) → Calls Tryd.prog 64 #[.slice A1 I c1, .int .i64 1, .int .i64 1] w1 (RetTm w1 r4)) := fun A1 c1 w1 hi => by rw [← hr4]; exact dr_row A1 c1 I (b.drop 1) 1 1 w1 hi hb2 (by omega)
 have J1 : Hid (∀ p w1, NodesAt w1 (some ⟨p, 0, none⟩) [r1, r2] → Calls Tryd.prog 63 #[.slice (some ⟨p, 0, none⟩) 2 2] w1 (RetTm w1 (r1 ++ r2))) := fun p w1 hi => by
  have h := dr_join (some ⟨p, 0, none⟩) 2 2 [r1, r2] w1 hi rfl (by omega) (fun ts ht => by simp at ht; rcases ht with rfl | rfl <;> omega)
  rw [show [r1, r2].flatten = r1 ++ r2 by simp] at h
  exact h
 have J2 : Hid (∀ p w1, NodesAt w1 (some ⟨p, 0, none⟩) [r3, r4] → Calls Tryd.prog 63 #[.slice (some ⟨p, 0, none⟩) 2 2] w1 (RetTm w1 (r3 ++ r4))) := fun p w1 hi => by
  have h := dr_join (some ⟨p, 0, none⟩) 2 2 [r3, r4] w1 hi rfl (by omega) (fun ts ht => by simp at ht; rcases ht with rfl | rfl <;> omega)
  rw [show [r3, r4].flatten = r3 ++ r4 by simp] at h
  exact h
 have HTW : Hid (twoNs b a Q S = [r1 ++ r2, r3 ++ r4]) := Lib.hid (by unfold twoNs; rw [hb2, HLA.out, hr1, hr2, hr3, hr4])
 have L1 := Lib.hid l1
 have L2 := Lib.hid l2
 have L3 := Lib.hid l3
 have L4 := Lib.hid l4
 have IB := Lib.hid (HB.out.grow HBW5.out)
 have IT : Hid (∀ w1 A1, Ints w1 A1 b → Ints w1 A1 (b.take 1)) := Lib.hid fun w1 A1 hi => hi.takeL 1
 have ID : Hid (∀ w1 A1, Ints w1 A1 b → Ints w1 (if cb = 1 then A1 else A1.map (fun x => x.add 1)) (b.drop 1)) := Lib.hid fun w1 A1 hi => hi.dropL (c := cb) (k := 1) (by rw [HLB.out]; exact hcb)
 clear hr1 hr2 hr3 hr4 hb1 hb2 l1 l2 l3 l4
 generalize b.take 1 = bt at R3 IT
 generalize b.drop 1 = bd at R4 ID
 obtain ⟨ad, hBs⟩ : ∃ ad, B = some ad := by
  obtain ⟨ad, _, e, _⟩ := HB.out.at_ (k := 0) (by rw [HLB.out]; omega)
  exact ⟨ad, e⟩
 subst hBs
 refine wp_region_grow2 (fun i => Nat.blt i 19) (fun _ => false) (fun w6 => Below W5.heap.size W5 w6) (fun a b => Below a.heap.size a b) (fuF W5.heap.size g I cb K ca S (.slice (some ⟨ug, 0, none⟩) 1 1) (.slice (some ad) (I + 1) cb) (.slice A K ca) bt bd r1 r2 r3 r4) (by kernel_rfl) (by kernel_rfl) (Below.refl _ _).drew (fun a b h1 h2 => ⟨below_then h1 h2, fun i _ v => fuF_keep h2 i v⟩) (fun _ _ => Below.refl _ _) ?_ (fun _ _ _ _ h => by cases h) ?_
 ·refine ⟨?_, ?_, ?_, ?_, ?_, ?_, ?_, ?_, ?_, ?_, ?_, ?_, ?_, ?_, ?_, ?_, ?_, ?_, ?_, trivial⟩
  all_goals
   intro vs w6 hp hF
   have HP := Lib.hid hp
   clear hp
   simp [depsB, Region.binds, fuF] at hF
   simp [stL, depsB, Region.binds, Act.put, hF]
  all_goals try (go_wp2_with fail; exact ⟨rfl, Below.refl _ _⟩)
  ·go_wp2_with fail
   refine (R1.out _ HP.out).mono ?_
   rintro e7 w7 ⟨v7, rfl, ho7, hb7⟩
   obtain ⟨A7, c7, rfl, -, ht7⟩ := ho7.form
   go_wp2_with fail
   have hq := TermsF.own (ho7.base HP.out.size) ht7
   first | exact ⟨A7, c7, rfl, hq⟩ | exact ⟨⟨A7, c7, rfl, hq⟩, hb7⟩ | exact ⟨A7, c7, by rw [List.length_append], hq⟩ | exact ⟨⟨A7, c7, by rw [List.length_append], hq⟩, hb7⟩
  ·go_wp2_with fail
   refine (R2.out _ HP.out).mono ?_
   rintro e7 w7 ⟨v7, rfl, ho7, hb7⟩
   obtain ⟨A7, c7, rfl, -, ht7⟩ := ho7.form
   go_wp2_with fail
   have hq := TermsF.own (ho7.base HP.out.size) ht7
   first | exact ⟨A7, c7, rfl, hq⟩ | exact ⟨⟨A7, c7, rfl, hq⟩, hb7⟩ | exact ⟨A7, c7, by rw [List.length_append], hq⟩ | exact ⟨⟨A7, c7, by rw [List.length_append], hq⟩, hb7⟩
  ·obtain ⟨⟨A1, ⟨c1', e1⟩, t1⟩, ⟨A3, ⟨c3', e3⟩, t3⟩⟩ := hF
   simp only [e1, e3]
   go_wp2_with fail
   have hb7 : Below w6.heap.size w6 (w6.alloc (.cells #[.slice A1 r1.length c1', .slice A3 r2.length c3'] 34)) := Below.alloc (Below.refl _ _) (Nat.le_refl _) _
   exact ⟨⟨_, rfl, nodes_two (t1.1.grow hb7) (t3.1.grow hb7) rfl rfl⟩, hb7⟩
  ·obtain ⟨⟨p, e4, hn⟩, -⟩ := hF
   simp only [e4]
   go_wp2_with fail
   refine (J1.out _ _ hn).mono ?_
   rintro e7 w7 ⟨v7, rfl, ho7, hb7⟩
   obtain ⟨A7, c7, rfl, -, ht7⟩ := ho7.form
   go_wp2_with fail
   have hq := TermsF.own (ho7.base HP.out.size) ht7
   first | exact ⟨A7, c7, rfl, hq⟩ | exact ⟨⟨A7, c7, rfl, hq⟩, hb7⟩ | exact ⟨A7, c7, by rw [List.length_append], hq⟩ | exact ⟨⟨A7, c7, by rw [List.length_append], hq⟩, hb7⟩
  ·obtain ⟨A5, ⟨c5, e5⟩, t5⟩ := hF
   simp only [e5]
   go_wp2_with fail
   first | exact ⟨⟨A5, c5, by rw [List.length_append], t5⟩, Below.refl _ _⟩ | exact ⟨A5, c5, by rw [List.length_append], t5⟩
  ·have x1 : decide ((cb : Int) < 1) = false := decide_eq_false (by omega)
   have hi := IT.out _ _ (IB.out.grow HP.out)
   go_wp2_with fail
   exact ⟨⟨_, rfl, hi⟩, Below.refl _ _⟩
  ·obtain ⟨⟨A8, e8, hi8⟩, hF9⟩ := hF
   simp only [e8]
   go_wp2_with fail
   refine (R3.out _ _ hi8).mono ?_
   rintro e7 w7 ⟨v7, rfl, ho7, hb7⟩
   obtain ⟨A7, c7, rfl, -, ht7⟩ := ho7.form
   go_wp2_with fail
   have hq := TermsF.own (ho7.base HP.out.size) ht7
   first | exact ⟨A7, c7, rfl, hq⟩ | exact ⟨⟨A7, c7, rfl, hq⟩, hb7⟩ | exact ⟨A7, c7, by rw [List.length_append], hq⟩ | exact ⟨⟨A7, c7, by rw [List.length_append], hq⟩, hb7⟩
  ·have x1 : decide ((cb : Int) < 1) = false := decide_eq_false (by omega)
   have hi := ID.out _ _ (IB.out.grow HP.out)
   go_wp2_with fail
   ·rw [if_pos (show cb = 1 by assumption)] at hi
    exact ⟨⟨_, _, rfl, hi⟩, Below.refl _ _⟩
   ·rw [if_neg (show ¬ cb = 1 by assumption)] at hi
    exact ⟨⟨_, _, rfl, hi⟩, Below.refl _ _⟩
  ·obtain ⟨⟨A8, ⟨c8, e8⟩, hi8⟩, -⟩ := hF
   simp only [e8]
   go_wp2_with fail
   refine (R4.out _ _ _ hi8).mono ?_
   rintro e7 w7 ⟨v7, rfl, ho7, hb7⟩
   obtain ⟨A7, c7, rfl, -, ht7⟩ := ho7.form
   go_wp2_with fail
   have hq := TermsF.own (ho7.base HP.out.size) ht7
   first | exact ⟨A7, c7, rfl, hq⟩ | exact ⟨⟨A7, c7, rfl, hq⟩, hb7⟩ | exact ⟨A7, c7, by rw [List.length_append], hq⟩ | exact ⟨⟨A7, c7, by rw [List.length_append], hq⟩, hb7⟩
  ·obtain ⟨⟨A1, ⟨c1', e1⟩, t1⟩, ⟨A3, ⟨c3', e3⟩, t3⟩⟩ := hF
   simp only [e1, e3]
   go_wp2_with fail
   have hb7 : Below w6.heap.size w6 (w6.alloc (.cells #[.slice A1 r3.length c1', .slice A3 r4.length c3'] 34)) := Below.alloc (Below.refl _ _) (Nat.le_refl _) _
   exact ⟨⟨_, rfl, nodes_two (t1.1.grow hb7) (t3.1.grow hb7) rfl rfl⟩, hb7⟩
  ·obtain ⟨⟨p, e4, hn⟩, -⟩ := hF
   simp only [e4]
   go_wp2_with fail
   refine (J2.out _ _ hn).mono ?_
   rintro e7 w7 ⟨v7, rfl, ho7, hb7⟩
   obtain ⟨A7, c7, rfl, -, ht7⟩ := ho7.form
   go_wp2_with fail
   have hq := TermsF.own (ho7.base HP.out.size) ht7
   first | exact ⟨A7, c7, rfl, hq⟩ | exact ⟨⟨A7, c7, rfl, hq⟩, hb7⟩ | exact ⟨A7, c7, by rw [List.length_append], hq⟩ | exact ⟨⟨A7, c7, by rw [List.length_append], hq⟩, hb7⟩
  ·obtain ⟨A5, ⟨c5, e5⟩, t5⟩ := hF
   simp only [e5]
   go_wp2_with fail
   first | exact ⟨⟨A5, c5, by rw [List.length_append], t5⟩, Below.refl _ _⟩ | exact ⟨A5, c5, by rw [List.length_append], t5⟩
  ·obtain ⟨⟨A1, ⟨c1', e1⟩, t1⟩, ⟨A3, ⟨c3', e3⟩, t3⟩⟩ := hF
   simp only [e1, e3]
   go_wp2_with fail
   have hb7 : Below w6.heap.size w6 (w6.alloc (.cells #[.slice A1 (r1.length + r2.length) c1', .slice A3 (r3.length + r4.length) c3'] 36)) := Below.alloc (Below.refl _ _) (Nat.le_refl _) _
   exact ⟨⟨_, rfl, nodesF_two HP.out.size (t1.grow hb7) (t3.grow hb7) (by rw [List.length_append]) (by rw [List.length_append])⟩, hb7⟩
 intro vs w6 hp hF
 obtain ⟨np, e17, hnF⟩ := hF 17 (by decide) rfl
 have e18 : vs 18 = .pointer (some ⟨g, 9, none⟩) := hF 18 (by decide) rfl
 have HG6 := Lib.hid (HG5.out.keep hp)
 have HO6 := Lib.hid (HO5.out.grow hp)
 have HN6 := Lib.hid hnF
 have HB6 := Lib.hid (below_then HW5.out hp)
 show wpList Tryd.prog _ _ [_] _ _
 simp [stL, Act.put, e17, e18]
 clear hF e17 e18 hnF hp
 have yc := HG6.out.2.1 9
 have yf := HG6.out.2.2 9
 go_upto_region 9 with fail
 have hh5 := (HO5.out.1.lt h rfl)
 have hg5 := HG5.out.1
 have hG7 : Box (w6.setCell ⟨g, 9, none⟩ (.slice (some ⟨np, 0, none⟩) 2 2)) g (netL (d0, d1, d2, d3) (c0, c1, c2, c3) (S : Int) (.slice (some ⟨np, 0, none⟩) 2 2) (.slice (some ⟨h, 0, none⟩) S S) ((S : Int) + 2)) := HG6.out.set (k := 9) (by show 9 < 12; omega)
 have hO7 := HO6.out.other (k := 9) (u := .slice (some ⟨np, 0, none⟩) 2 2) (fun e => HNE.out e.symm)
 have hN7 := HN6.out.away (grown_set (k := 9) (u := .slice (some ⟨np, 0, none⟩) 2 2) (grown_refl w6 (some g))) hg5
 have hB7 : Below w2.heap.size w2 (w6.setCell ⟨g, 9, none⟩ (.slice (some ⟨np, 0, none⟩) 2 2)) := below_set HB6.out HGB.out
 generalize w6.setCell ⟨g, 9, none⟩ (.slice (some ⟨np, 0, none⟩) 2 2) = W7 at hG7 hO7 hN7 hB7 ⊢
 have HG7 := Lib.hid hG7
 have HO7 := Lib.hid hO7
 have HN7 := Lib.hid hN7
 have HB7 := Lib.hid hB7
 have yx : W7.cell? ⟨g, 10, none⟩ = some (.slice (some ⟨h, 0, none⟩) S S) := hG7.2.1 10
 have HH5 := Lib.hid hh5
 have HG5L := Lib.hid hg5
 have HW2L := Lib.hid D2.out.1
 clear hG7 hO7 hN7 hB7 hh5 hg5 yc yf HG6 HO6 HN6 HB6 HG5 HO5 R1 R2 R3 R4 J1 J2 IT ID IB
 have CD : Hid (Calls Tryd.prog 65 #[.slice (some ⟨h, 0, none⟩) S S, .int .i64 1, .int .i64 ((S : Int) + 1)] W7 fun e w' => e = .returned (.tuple #[]) ∧ Own w2.heap.size w' (.slice (some ⟨h, 0, none⟩) S S) (twoNx S) ∧ W7.grownBy w' (some h)) := Lib.hid (dr_delay w2.heap.size h 0 S S S S (List.replicate S 0) 1 ((S : Int) + 1) W7 HO7.out (by simp) (by omega) (by omega) ⟨by omega, by omega⟩)
 go_upto_region 10 with (go_at_call 65; (with_reducible refine CD.out.mono ?_); rintro e8 w8 ⟨rfl, ho8, hg8⟩; have HO8 := Lib.hid ho8; have HG8 := Lib.hid hg8; clear ho8 hg8)
 have HGX8 := Lib.hid (HG7.out.grown HG8.out (fun e => HNE.out (by injection e)))
 have HN8 := Lib.hid (HN7.out.away HG8.out HH5.out.2)
 have HB8 := Lib.hid (grown_to HB7.out HG8.out HH5.out.1)
 have HR8 := Lib.hid ((D2.out.keep HB7.out).grown HG8.out (fun e => by injection e with e; have := HH5.out.1; have := HW2L.out; omega))
 clear HG8 HG7 HO7 HN7 HB7 CD yx
 go_wp2_with (first
  | ((with_reducible show wpList _ _ _ (Oper.mk _ (.load 27 _) _ _ _ _ :: _) _ _); refine ld_netB1 HGX8.out rfl rfl _ rfl rfl ?_)
  | ((with_reducible show wpList _ _ _ (Oper.mk none (.store 27 _ _) _ _ _ _ :: _) _ _); refine st_netL HR8.out rfl (L := netL (d0, d1, d2, d3) (c0, c1, c2, c3) (S : Int) (.slice (some ⟨np, 0, none⟩) 2 2) (.slice (some ⟨h, 0, none⟩) S S) ((S : Int) + 2)) rfl rfl rfl _ _ rfl rfl rfl ?_; intro w9 hb9 hg9))
 obtain ⟨dsc, hd1, hd2⟩ := row_net
 refine bodyPost_ret (resCT rfl _ _ w9 (g := w.heap.size + 2) (v := .agg (netL (d0, d1, d2, d3) (c0, c1, c2, c3) (S : Int) (.slice (some ⟨np, 0, none⟩) 2 2) (.slice (some ⟨h, 0, none⟩) S S) ((S : Int) + 2)).toArray) rfl (res_box _ hb9 dsc hd1 hd2 size_net)) rfl ?_
 have hlt := HW2L.out
 have hlx : (twoNx S).length = S := by unfold twoNx; rw [dlF_length, List.length_replicate]
 have hO9 : Own w2.heap.size w9 (.slice (some ⟨h, 0, none⟩) S S) (twoNx S) := own_away HO8.out hg9 (by omega)
 have hN9 := HN8.out.away hg9 (by have := HBW5.out.size; have := HG5L.out; have := HGB.out; omega)
 obtain ⟨hll, -, -⟩ := HTW.out ▸ (⟨rfl, trivial, trivial⟩ : (twoNs b a Q S).length = 2 ∧ True ∧ True)
 rw [HQ.out]
 refine ⟨some ⟨np, 0, none⟩, 2, some ⟨h, 0, none⟩, S, ?_, ⟨?_, (IntsF.own hO9).base HW2.out.size, by show (twoNs b a Q S).length ≤ _; rw [HTW.out]; show 2 ≤ _; omega, by show (twoNx S).length ≤ _; omega, ?_, ⟨by show _ ≤ (S : Int); omega, by show (S : Int) ≤ _; omega⟩⟩, grown_to (below_then HW2.out HB8.out) hg9 (by omega)⟩
 ·unfold NetD.lst
  simp only [HTW.out, hlx]
  rfl
 ·show NodesF w.heap.size w9 _ (twoNs b a Q S)
  rw [HTW.out]
  exact hN9.base (by have := HBW5.out.size; have := HG5L.out; have := HGB.out; have := HW2.out.size; omega)
 ·show ∀ ts ∈ twoNs b a Q S, _
  rw [HTW.out]
  intro ts hts
  have h1 := L1.out
  have h2 := L2.out
  have h3 := L3.out
  have h4 := L4.out
  simp only [List.mem_cons, List.mem_singleton, List.not_mem_nil, or_false] at hts
  rcases hts with rfl | rfl <;> rw [List.length_append] <;> omega
end Go.Proofs.YtdiflpbioohddaaDoor
