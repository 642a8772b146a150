/- The plant of law 41: its network. -/
import Derived.Test.YtdiflpbioohddaaDoortJitoDl
import Derived.Test.YtdiflpbioohddaaDoortDi
import Derived.Test.YtdiflpbioohddaaDoortS42toCq
set_option linter.unusedVariables false
set_option linter.unusedSimpArgs false
namespace Go.Proofs.YtdiflpbioohddaaDoor
open Go.RowKit
def bwF (us : List Value) (k m : Nat) (l : List Int) (i : Nat) (v : Value) (w : World) : Prop :=
 if i = k then ∃ A c, v = .slice A m c ∧ m ≤ c ∧ Ints w A l else match us[i]? with | some u => v = u | none => True
theorem bwF_keep {us : List Value} {k m : Nat} {l : List Int} {w w' : World} (h : Below w.heap.size w w') (i : Nat) (v : Value) (hf : bwF us k m l i v w) : bwF us k m l i v w' := by
 unfold bwF at hf ⊢
 by_cases h1 : i = k
 ·rw [if_pos h1] at hf ⊢
  obtain ⟨A, c, e, hc, ht⟩ := hf
  exact ⟨A, c, e, hc, ht.grow h⟩
 rw [if_neg h1] at hf ⊢
 exact hf
def IsPT (b : Nat) (w : World) (v : Value) : Prop := ∃ (n : NetD) (NA : Option Addr) (nc : Nat) (XA : Option Addr) (xc : Nat), v = .tuple #[.agg (n.lst NA nc XA xc).toArray, .int .i64 0] ∧ n.ok = true ∧ validB n.prg = true ∧ NetF b w n NA XA
def IsPA (b : Nat) (w : World) (v : Value) : Prop := ∃ (n : NetD) (NA : Option Addr) (nc : Nat) (XA : Option Addr) (xc : Nat), v = .agg (n.lst NA nc XA xc).toArray ∧ n.ok = true ∧ validB n.prg = true ∧ NetF b w n NA XA
def bnF (b : Nat) (us : List Value) (m : Nat) (l : List Int) (i : Nat) (v : Value) (w : World) : Prop :=
 if i = 15 ∨ i = 16 then IsPT b w v
 else if i = 17 then IsPA b w v
 else if i = 18 then v = .int .i64 0
 else bwF us 12 m l i v w
theorem bnF_keep {b : Nat} {us : List Value} {m : Nat} {l : List Int} {w w' : World} (h : Below w.heap.size w w') (i : Nat) (v : Value) (hf : bnF b us m l i v w) : bnF b us m l i v w' := by
 unfold bnF at hf ⊢
 by_cases h1 : i = 15 ∨ i = 16
 ·rw [if_pos h1] at hf ⊢
  obtain ⟨n, NA, nc, XA, xc, e, h2, h3, h4⟩ := hf
  exact ⟨n, NA, nc, XA, xc, e, h2, h3, h4.grow h⟩
 rw [if_neg h1] at hf ⊢
 by_cases h1 : i = 17
 ·rw [if_pos h1] at hf ⊢
  obtain ⟨n, NA, nc, XA, xc, e, h2, h3, h4⟩ := hf
  exact ⟨n, NA, nc, XA, xc, e, h2, h3, h4.grow h⟩
 rw [if_neg h1] at hf ⊢
 by_cases h1 : i = 18
 ·rw [if_pos h1] at hf ⊢
  exact hf
 rw [if_neg h1] at hf ⊢
 exact bwF_keep h i v hf
theorem RetNetF.pn {w : World} {d c : Int × Int × Int × Int} {st out : Int} {ns : List (List (Int × Int))} {nx : List Int} {e : Ending} {w' : World} (h : RetNetF w d c st ns nx out 0 e w')
  (hok : (⟨d.1, d.2.1, d.2.2.1, d.2.2.2, c.1, c.2.1, c.2.2.1, c.2.2.2, st, out, ns, nx⟩ : NetD).ok = true) (hv : tinyN ns nx) (hb : ns.length ≤ 64 ∧ nx.length ≤ 64 ∧ (∀ ts ∈ ns, ts.length ≤ 64) ∧ 0 ≤ st ∧ st ≤ 64) : RetPN w e w' := by
 obtain ⟨NA, nc, XA, xc, h1, h2, h3, h4⟩ := h
 refine ⟨⟨d.1, d.2.1, d.2.2.1, d.2.2.2, c.1, c.2.1, c.2.2.1, c.2.2.2, st, out, ns, nx⟩, NA, nc, XA, xc, h1, hok, compD_valid hok hv, ⟨h2, h3, by show ns.length ≤ _; omega, by show nx.length ≤ _; omega, fun ts hts => by have := hb.2.2.1 ts hts; omega, ⟨by show _ ≤ st; omega, by show st ≤ _; omega⟩⟩, h4⟩
set_option maxRecDepth 100000 in
set_option maxHeartbeats 16000000 in
theorem pl_Net (u : PlantA) (w : World) (h : PlantOk w u) : Calls Tryd.prog 18 #[.agg u.lst.toArray] w (RetPP w) := by
 obtain ⟨⟨hB, hA⟩, n1, n2⟩ := h
 obtain ⟨kd, dn, cn, BA, AA, bc, ac, bl, al⟩ := u
 simp only [PlantA.lst] at hB hA n1 n2 ⊢
 have hd := mkWD_ok dn
 have hc := mkWC_ok cn
 obtain ⟨⟨d0, d1, d2, d3⟩, hdd⟩ : ∃ d, mkW dn 6 12 2 = d := ⟨_, rfl⟩
 obtain ⟨⟨c0, c1, c2, c3⟩, hcc⟩ : ∃ c, mkW cn 6 9 1 = c := ⟨_, rfl⟩
 have CD : Hid (∀ w1, Calls Tryd.prog 27 #[.int .i64 dn] w1 fun e w' => e = .returned (.agg (wordL (d0, d1, d2, d3)).toArray) ∧ Below w1.heap.size w1 w') := fun w1 => hdd ▸ wd_Data dn w1
 have CC : Hid (∀ w1, Calls Tryd.prog 29 #[.int .i64 cn] w1 fun e w' => e = .returned (.agg (wordL (c0, c1, c2, c3)).toArray) ∧ Below w1.heap.size w1 w') := fun w1 => hcc ▸ wd_Coef cn w1
 rw [hdd] at hd
 rw [hcc] at hc
 simp only at hd hc
 obtain ⟨o1, o2, o3, o4, -⟩ := okW_iff.1 hc
 obtain ⟨E, hE⟩ : ∃ E, (2 : Int) ^ (c0 - 1).toNat = E := ⟨_, rfl⟩
 have E0 : 0 < E := by rw [← hE]; exact pow_pos' _
 have hc9 : c0 ≤ 9 := by
  have h1 : (mkW cn 6 9 1).1 = c0 := by rw [hcc]
  unfold mkW at h1
  simp only at h1
  omega
 have E1 : E ≤ 256 := by
  rw [← hE]
  exact pow_le (n := 8) (by omega)
 obtain ⟨Q, hQ⟩ : ∃ Q, (2 : Int) ^ c1.toNat = Q := ⟨_, rfl⟩
 have Q0 : 0 < Q := by rw [← hQ]; exact pow_pos' _
 have QE : Q ≤ E := by rw [← hE, ← hQ]; exact frac_le hc
 have FT : ∀ x, -(E - 1) ≤ x ∧ x ≤ E - 1 → fitsW c0 c1 c2 c3 x = true ∧ fitsW c0 c1 c2 c3 (-x) = true := fun x hx => below_fits hc (by rw [hE]; exact hx)
 have FB : ∀ l m, ∀ x ∈ belowF (E - 1) l m, fitsW c0 c1 c2 c3 x = true ∧ fitsW c0 c1 c2 c3 (-x) = true := fun l m x hx => FT x (below_mem (by omega) hx)
 have FQ : ∀ l m, ∀ x ∈ belowF (Q - 1) l m, (fitsW c0 c1 c2 c3 x = true ∧ fitsW c0 c1 c2 c3 (-x) = true) ∧ -(2 ^ c1.toNat) < x ∧ x < 2 ^ c1.toNat := fun l m x hx => by
  have := below_mem (by omega) hx
  exact ⟨FT x (by omega), by omega, by omega⟩
 obtain ⟨bn, hbn⟩ : ∃ k, bl.length = k := ⟨_, rfl⟩
 obtain ⟨an, han⟩ : ∃ k, al.length = k := ⟨_, rfl⟩
 have wi : ∀ (v : Int) (m : Int), 1 ≤ m → ∃ k : Nat, withinF v m = (k : Int) ∧ (k : Int) < m := fun v m hm => by
  have := within_in hm v
  exact ⟨(withinF v m).toNat, by omega, by omega⟩
 obtain ⟨I, hI, hI9⟩ := wi bn 9 (by omega)
 obtain ⟨K, hK, hK6⟩ := wi an 6 (by omega)
 obtain ⟨n, hn, hn5⟩ := wi an 5 (by omega)
 obtain ⟨kk, hk, hk4⟩ := wi kd 4 (by omega)
 have W9 : Hid (∀ w1, Calls Tryd.prog 23 #[.int .i64 bn, .int .i64 9] w1 fun e w' => e = .returned (.int .i64 I) ∧ w1 = w') := fun w1 => hI ▸ wd_Within bn 9 w1 (by omega)
 have W6 : Hid (∀ w1, Calls Tryd.prog 23 #[.int .i64 an, .int .i64 6] w1 fun e w' => e = .returned (.int .i64 K) ∧ w1 = w') := fun w1 => hK ▸ wd_Within an 6 w1 (by omega)
 have W5 : Hid (∀ w1, Calls Tryd.prog 23 #[.int .i64 an, .int .i64 5] w1 fun e w' => e = .returned (.int .i64 n) ∧ w1 = w') := fun w1 => hn ▸ wd_Within an 5 w1 (by omega)
 have W4 : Hid (∀ w1, Calls Tryd.prog 23 #[.int .i64 kd, .int .i64 4] w1 fun e w' => e = .returned (.int .i64 kk) ∧ w1 = w') := fun w1 => hk ▸ wd_Within kd 4 w1 (by omega)
 obtain ⟨M, hM⟩ : ∃ M, M = I + 1 := ⟨_, rfl⟩
 obtain ⟨N, hN⟩ : ∃ N, N = n + 1 := ⟨_, rfl⟩
 have LB : ∀ (bnd : Int) (A : Option Addr) (l : List Int) (cp m k : Nat), 0 ≤ bnd → bnd ≤ 256 → m ≤ 100 → l.length = k → Ints w A l → Hid (∀ w1, Below w.heap.size w w1 → Calls Tryd.prog 45 #[.int .i64 bnd, .slice A k cp, .int .i64 m] w1 fun e w' => (∃ A' c', e = .returned (.slice A' m c') ∧ m ≤ c' ∧ Ints w' A' (belowF bnd l m)) ∧ Below w1.heap.size w1 w') := by
  intro bnd A l cp m k h0 h1 hm hl hi w1 hb
  subst hl
  refine (wd_Below bnd A l cp m w1 h0 (by omega) (by omega) (hi.grow hb)).mono ?_
  rintro e w' ⟨v, rfl, ho, hb'⟩
  obtain ⟨A', c', rfl, h1, h2⟩ := ho.form
  rw [belowF_length] at h1 ⊢
  exact ⟨⟨A', c', rfl, h1, h2⟩, hb'⟩
 have CB := LB (E - 1) BA bl bc M bn (by omega) (by omega) (by omega) hbn hB
 have CA := LB (E - 1) AA al ac K an (by omega) (by omega) (by omega) han hA
 have CK := LB (Q - 1) AA al ac n an (by omega) (by omega) (by omega) han hA
 have CV := LB (E - 1) BA bl bc N bn (by omega) (by omega) (by omega) hbn hB
 have CU : Hid (∀ w1, Calls Tryd.prog 48 #[wordV c0 c1 c2 c3] w1 fun e w' => e = .returned (.int .i64 Q) ∧ Below w1.heap.size w1 w') := fun w1 => hQ ▸ wd_Unit c0 c1 c2 c3 w1 (by omega)
 have B1 : Hid (∀ w1 (B A : Option Addr) (cb ca : Nat), Ints w1 B (belowF (E - 1) bl M) → Ints w1 A (belowF (E - 1) al K) → M ≤ cb → K ≤ ca → Calls Tryd.prog 28 #[.slice B M cb, .slice A K ca, wordV d0 d1 d2 d3, wordV c0 c1 c2 c3] w1 (RetPN w1)) := fun w1 B A cb ca hb ha _ _ => by
  subst hM
  have ho := one_ok (a := belowF (E - 1) al K) (b := belowF (E - 1) bl (I + 1)) (I := I) (K := K) hd hc (belowF_length _ _ _) (belowF_length _ _ _) ⟨by omega, by omega⟩ (fun v hv => (FB _ _ v hv).1) (FB _ _)
  refine (dr_FormOneF A B ca cb I K (belowF (E - 1) al K) (belowF (E - 1) bl (I + 1)) (d0, d1, d2, d3) (c0, c1, c2, c3) w1 ha hb (belowF_length _ _ _) (belowF_length _ _ _) hd hc ⟨by omega, by omega⟩ (fun v hv => (FB _ _ v hv).1) (FB _ _)).mono fun e w' h => h.pn ho.1 ho.2 ⟨by show 1 ≤ 64; decide, ?_, fun ts hts => ?_, by omega, by omega⟩
  ·unfold oneNx; rw [dlF_length, dlF_length, List.length_replicate]; omega
  ·unfold oneNs at hts
   rw [List.mem_singleton.1 hts, List.length_append, rowF_length, rowF_length, belowF_length, belowF_length]; omega
 have B2 : Hid (∀ w1 (B A : Option Addr) (cb ca : Nat), Ints w1 B (belowF (E - 1) bl M) → Ints w1 A (belowF (E - 1) al K) → M ≤ cb → K ≤ ca → Calls Tryd.prog 46 #[.slice B M cb, .slice A K ca, wordV d0 d1 d2 d3, wordV c0 c1 c2 c3] w1 (RetPN w1)) := fun w1 B A cb ca hb ha h1 _ => by
  subst hM
  have ho := two_ok (a := belowF (E - 1) al K) (b := belowF (E - 1) bl (I + 1)) (I := I) (K := K) (S := max I K) hd hc (belowF_length _ _ _) (belowF_length _ _ _) ⟨by omega, by omega⟩ rfl (fun v hv => (FB _ _ v hv).1) (FB _ _)
  exact (dr_FormTwo A B ca cb I K (max I K) (belowF (E - 1) al K) (belowF (E - 1) bl (I + 1)) (d0, d1, d2, d3) (c0, c1, c2, c3) w1 ha hb (belowF_length _ _ _) (belowF_length _ _ _) h1 rfl hd hc ⟨by omega, by omega⟩ (fun v hv => (FB _ _ v hv).1) (FB _ _)).mono fun e w' h => h.pn ho.1 (compD_valid ho.1 ho.2)
 have B3 : Hid (∀ w1 (B A : Option Addr) (cb ca : Nat), Ints w1 B (belowF (E - 1) bl M) → Ints w1 A (belowF (E - 1) al K) → M ≤ cb → K ≤ ca → Calls Tryd.prog 47 #[.slice B M cb, .slice A K ca, wordV d0 d1 d2 d3, wordV c0 c1 c2 c3] w1 (RetPN w1)) := fun w1 B A cb ca hb ha h1 h2 => by
  subst hM
  have ho := tr_ok (a := belowF (E - 1) al K) (b := belowF (E - 1) bl (I + 1)) (I := I) (K := K) (S := max I K) hd hc (belowF_length _ _ _) (belowF_length _ _ _) ⟨by omega, by omega⟩ rfl (fun v hv => (FB _ _ v hv).1) (FB _ _)
  exact (dr_Transposed A B ca cb I K (max I K) (belowF (E - 1) al K) (belowF (E - 1) bl (I + 1)) (d0, d1, d2, d3) (c0, c1, c2, c3) w1 ha hb (belowF_length _ _ _) (belowF_length _ _ _) h1 h2 rfl hd hc ⟨by omega, by omega⟩ (fun v hv => (FB _ _ v hv).1) (FB _ _)).mono fun e w' h => h.pn ho.1 (compD_valid ho.1 ho.2)
 have B4 : Hid (∀ w1 (B A : Option Addr) (cb ca : Nat), Ints w1 A (belowF (Q - 1) al n) → Ints w1 B (belowF (E - 1) bl N) → Calls Tryd.prog 49 #[.slice A n ca, .slice B N cb, wordV d0 d1 d2 d3, wordV c0 c1 c2 c3] w1 (RetPN w1)) := fun w1 B A cb ca ha hb => by
  subst hN
  have ho := la_ok (k := belowF (Q - 1) al n) (v := belowF (E - 1) bl (n + 1)) (n := n) hd hc (belowF_length _ _ _) (belowF_length _ _ _) (by omega) (fun v hv => (FB _ _ v hv).1) (fun x hx => (FQ _ _ x hx).1)
  exact (lt_Build A B ca cb n (belowF (Q - 1) al n) (belowF (E - 1) bl (n + 1)) (d0, d1, d2, d3) (c0, c1, c2, c3) w1 ha hb (belowF_length _ _ _) (belowF_length _ _ _) hd hc (by omega) (fun v hv => (FB _ _ v hv).1) (FQ _ _)).mono fun e w' h => h.pn ho.1 (compD_valid ho.1 ho.2)
 obtain ⟨e1, he1⟩ : ∃ k : Nat, c0 - 1 = (k : Int) := ⟨(c0 - 1).toNat, by omega⟩
 have q0 : IntKind.i64.wrap (c0 - 1) = (e1 : Int) := (IntWalk.i64_in _ (by omega)).trans he1
 have q1 : IntKind.i64.wrap ((2 : Int) ^ e1) = E := by rw [show e1 = (c0 - 1).toNat by omega, hE]; exact IntWalk.i64_in _ (by omega)
 have q2 : wrap64 E = E := by unfold wrap64; omega
 have q4 : IntKind.i64.wrap (E - 1) = E - 1 := IntWalk.i64_in _ (by omega)
 have q5 : IntKind.i64.wrap (Q - 1) = Q - 1 := IntWalk.i64_in _ (by omega)
 have o5 : e1 ≤ 61 := by omega
 have m1 : IntKind.i64.wrap (1 + (I : Int)) = (M : Int) := (IntWalk.i64_in _ (by omega)).trans (by omega)
 have m2 : IntKind.i64.wrap ((n : Int) + 1) = (N : Int) := (IntWalk.i64_in _ (by omega)).trans (by omega)
 obtain ⟨b, hb⟩ : ∃ l, belowF (E - 1) bl M = l := ⟨_, rfl⟩
 obtain ⟨a, ha⟩ : ∃ l, belowF (E - 1) al K = l := ⟨_, rfl⟩
 obtain ⟨ka, hka⟩ : ∃ l, belowF (Q - 1) al n = l := ⟨_, rfl⟩
 obtain ⟨vb, hvb⟩ : ∃ l, belowF (E - 1) bl N = l := ⟨_, rfl⟩
 rw [hb] at CB B1 B2 B3
 rw [ha] at CA B1 B2 B3
 rw [hka] at CK B4
 rw [hvb] at CV B4
 rw [hbn, han]
 have HQ := Lib.hid (And.intro Q0 (And.intro QE (And.intro E0 E1)))
 have hk3 : kk < 4 := by omega
 clear he1 hdd hcc hd hc FT FB FQ LB wi hI hK hn hk hM hN hb ha hka hvb hbn han hB hA hE hQ hI9 hK6 hn5 hk4 n1 n2
 go_enter Tryd.func18, Tryd.ntmps18
 go_upto_region 1 with fail
 have b0 : Box ((w.alloc (.cells ([.int .i64 kd, .int .i64 dn, .int .i64 cn, .slice BA bn bc, .slice AA an ac]).toArray 55)).alloc (.cells zNet12.toArray 27)) w.heap.size [.int .i64 kd, .int .i64 dn, .int .i64 cn, .slice BA bn bc, .slice AA an ac] := (Box.new rfl).alloc _
 have b1 : Box ((w.alloc (.cells ([.int .i64 kd, .int .i64 dn, .int .i64 cn, .slice BA bn bc, .slice AA an ac]).toArray 55)).alloc (.cells zNet12.toArray 27)) (w.heap.size + 1) zNet12 := Box.new (by simp)
 have hb0 : Below w.heap.size w ((w.alloc (.cells ([.int .i64 kd, .int .i64 dn, .int .i64 cn, .slice BA bn bc, .slice AA an ac]).toArray 55)).alloc (.cells zNet12.toArray 27)) := ((Below.refl _ _).alloc (Nat.le_refl _) _).alloc (by simp) _
 change Code.wp _ _ _ _ ((w.alloc (.cells ([.int .i64 kd, .int .i64 dn, .int .i64 cn, .slice BA bn bc, .slice AA an ac]).toArray 55)).alloc (.cells zNet12.toArray 27))
 generalize ((w.alloc (.cells ([.int .i64 kd, .int .i64 dn, .int .i64 cn, .slice BA bn bc, .slice AA an ac]).toArray 55)).alloc (.cells zNet12.toArray 27)) = W1 at b0 b1 hb0 ⊢
 have HP1 := Lib.hid b0
 have HR1 := Lib.hid b1
 have HW1 := Lib.hid hb0
 clear b0 b1 hb0
 refine wp_region_growI (fun x => Nat.blt x 9) (fpI W1 w.heap.size dn cn (d0, d1, d2, d3) (c0, c1, c2, c3)) (by kernel_rfl) (by kernel_rfl) (fpI_zero _ _ _ _ _ _) ?_ ?_
 ·refine ⟨?_, ?_, ?_, ?_, ?_, ?_, ?_, ?_, ?_, trivial⟩
  all_goals
   intro S vs w5 hS hd hI
   have x1 : w5.cell? ⟨w.heap.size, 1, none⟩ = some (.int .i64 dn) := (HP1.out.keep hI.1).2.1 1
   have x2 : w5.cell? ⟨w.heap.size, 2, none⟩ = some (.int .i64 cn) := (HP1.out.keep hI.1).2.1 2
   have HI := Lib.hid hI
   have HS := Lib.hid hS
   clear hI hS
  ·simp [stL, depsB, Region.binds, Act.put]
   go_wp2_with fail
   exact fpI_step 0 _ HI.out (by omega) (Below.refl _ _) rfl
  ·have e0 : vs 0 = .pointer (some ⟨w.heap.size, 1, none⟩) := HI.out.2.1 0 (hd 0 rfl) (fun h => by cases h)
   simp [stL, depsB, Region.binds, Act.put, e0]
   go_wp2_with fail
   exact fpI_step 1 _ HI.out (by omega) (Below.refl _ _) rfl
  ·have e0 : vs 1 = .int .i64 dn := HI.out.2.1 1 (hd 1 rfl) (fun h => by cases h)
   clear hd
   simp [stL, depsB, Region.binds, Act.put, e0]
   go_wp2_with (go_at_call 27; (with_reducible refine (CD.out _).mono ?_); rintro e6 w6' ⟨rfl, hb6⟩)
   exact fpI_step 2 _ HI.out (by omega) hb6 rfl
  ·simp [stL, depsB, Region.binds, Act.put]
   go_wp2_with fail
   exact fpI_step 3 _ HI.out (by omega) (Below.refl _ _) rfl
  ·have e0 : vs 3 = .pointer (some ⟨w.heap.size, 2, none⟩) := HI.out.2.1 3 (hd 3 rfl) (fun h => by cases h)
   simp [stL, depsB, Region.binds, Act.put, e0]
   go_wp2_with fail
   exact fpI_step 4 _ HI.out (by omega) (Below.refl _ _) rfl
  ·have e0 : vs 4 = .int .i64 cn := HI.out.2.1 4 (hd 4 rfl) (fun h => by cases h)
   clear hd
   simp [stL, depsB, Region.binds, Act.put, e0]
   go_wp2_with (go_at_call 29; (with_reducible refine (CC.out _).mono ?_); rintro e6 w6' ⟨rfl, hb6⟩)
   exact fpI_step 5 _ HI.out (by omega) hb6 rfl
  ·simp [stL, depsB, Region.binds, Act.put]
   go_wp2_with fail
   exact fpI_box 6 HI.out (.inl rfl) HS.out
  ·simp [stL, depsB, Region.binds, Act.put]
   go_wp2_with fail
   exact fpI_box 7 HI.out (.inr rfl) HS.out
  ·have h6 := hd 6 rfl
   obtain ⟨q, e6, ⟨M', hM', h5'⟩, hq⟩ := HI.out.2.1 6 h6 (fun _ => HS.out)
   have e2 : vs 2 = .agg (wordL (d0, d1, d2, d3)).toArray := HI.out.2.1 2 (hd 2 rfl) (fun h => by cases h)
   clear hd
   simp [stL, depsB, Region.binds, Act.put, e6, e2]
   refine st_wordL hM' h5' rfl _ _ rfl rfl rfl ?_
   intro W9 hb9 hg9
   exact wpList_nil ⟨rfl, rfl, undef, fpI_store HI.out h6 e6 hq hb9 hg9 undef⟩
 intro S vs w5 hS hI
 obtain ⟨hC, hF, hne, hP8⟩ := hI
 obtain ⟨-, pd, e6, hb1, hq1⟩ := hP8 (hS 8 (by decide))
 have e5 : vs 5 = .agg (wordL (c0, c1, c2, c3)).toArray := hF 5 (hS 5 (by decide)) (fun h => by cases h)
 obtain ⟨pc, e7, ⟨L7, hb7, h75⟩, hq7⟩ := hF 7 (hS 7 (by decide)) (fun h => by cases h)
 have hne' : pd ≠ pc := fun e => hne (hS 6 (by decide)) (hS 7 (by decide)) (by rw [e6, e7, e])
 show wpList Tryd.prog _ _ [_] _ _
 simp [stL, Act.put, e5, e6, e7]
 refine st_wordL hb7 h75 rfl _ _ rfl rfl rfl ?_
 intro W3 hb9 hg9
 have hB3 := grown_to hC hg9 hq7
 have HD3 := Lib.hid (hb1.grown hg9 (fun e => hne' (by injection e)))
 have HC3 := Lib.hid hb9
 have HP3 := Lib.hid (HP1.out.keep hB3)
 have HR3 := Lib.hid (HR1.out.keep hB3)
 have HB3 := Lib.hid (below_then HW1.out hB3)
 clear hC hF hne hP8 e5 e6 e7 hb1 hq1 hb7 h75 hq7 hne' hb9 hg9 hB3 hS HP1 HR1 HW1 CD CC
 generalize vs 0 = x10
 generalize vs 1 = x11
 generalize vs 2 = x12
 generalize vs 3 = x13
 generalize vs 4 = x14
 go_upto_region 2 with fail
 refine wp_region_grow8 (fun x => Nat.blt x 14) (fun _ => false) (fun wx => Below W3.heap.size W3 wx) (fun a b => Below a.heap.size a b) (bwF [.pointer (some ⟨pc, 0, none⟩), .int .i64 c0, .int .i64 e1, .int .u64 e1, .int .i64 E, .int .i64 (E - 1), .pointer (some ⟨w.heap.size, 3, none⟩), .slice BA bn bc, .pointer (some ⟨w.heap.size, 3, none⟩), .slice BA bn bc, .int .i64 bn, .int .i64 I, .int .i64 M] 13 M b) (by kernel_rfl) (by kernel_rfl) (Below.refl _ _).drew (fun a b h1 h2 => ⟨below_then h1 h2, fun i _ v => bwF_keep h2 i v⟩) (fun _ _ => Below.refl _ _) ?_ (fun _ _ _ _ h => by cases h) ?_
 ·refine ⟨?_, ?_, ?_, ?_, ?_, ?_, ?_, ?_, ?_, ?_, ?_, ?_, ?_, ?_, trivial⟩
  all_goals
   intro vs w5 hp hF
   obtain ⟨z0, z1, z2, z3⟩ := (HC3.out.keep hp).c4
   have z4 : w5.cell? ⟨w.heap.size, 3, none⟩ = some (.slice BA bn bc) := (HP3.out.keep hp).2.1 3
   have z5 : w5.cell? ⟨w.heap.size, 4, none⟩ = some (.slice AA an ac) := (HP3.out.keep hp).2.1 4
   have HX5 := Lib.hid (below_then HB3.out hp)
   clear hp
   simp [depsB, Region.binds, bwF] at hF
   simp [stL, depsB, Region.binds, Act.put, hF]
  all_goals first
   | (go_wp2_with fail; exact ⟨rfl, Below.refl _ _⟩)
   | (go_wp2_with (go_at_call 23; (with_reducible refine (W9.out _).mono ?_); rintro e6 w6 ⟨rfl, rfl⟩); exact ⟨rfl, Below.refl _ _⟩)
   | (go_wp2_with (go_at_call 45; (with_reducible refine (CB.out _ HX5.out).mono ?_); rintro e6 w6 ⟨⟨A6, c6, rfl, hc6, hi6⟩, hb6⟩); first | exact ⟨A6, c6, rfl, hc6, hi6⟩ | exact ⟨⟨A6, c6, rfl, hc6, hi6⟩, hb6⟩)
 intro vs w5 hp hF
 obtain ⟨BB, cBB, e13, hcapBB, hinBB⟩ : ∃ A c, vs 13 = .slice A M c ∧ M ≤ c ∧ Ints w5 A b := hF 13 (by decide) rfl
 show wpList Tryd.prog _ _ [_] _ _
 simp [stL, Act.put, e13]
 have HD4 := Lib.hid (HD3.out.keep hp)
 have HC4 := Lib.hid (HC3.out.keep hp)
 have HP4 := Lib.hid (HP3.out.keep hp)
 have HR4 := Lib.hid (HR3.out.keep hp)
 have HB4 := Lib.hid (below_then HB3.out hp)
 have HBB := Lib.hid (And.intro hinBB hcapBB)
 clear hF e13 hp hinBB hcapBB HD3 HC3 HP3 HR3 HB3
 generalize w5 = W4' at HD4 HC4 HP4 HR4 HB4 HBB ⊢
 go_upto_region 3 with fail
 refine wp_region_grow8 (fun x => Nat.blt x 13) (fun _ => false) (fun wx => Below W4'.heap.size W4' wx) (fun a b => Below a.heap.size a b) (bwF [.pointer (some ⟨pc, 0, none⟩), .int .i64 c0, .int .i64 e1, .int .u64 e1, .int .i64 E, .int .i64 (E - 1), .pointer (some ⟨w.heap.size, 4, none⟩), .slice AA an ac, .pointer (some ⟨w.heap.size, 4, none⟩), .slice AA an ac, .int .i64 an, .int .i64 K] 12 K a) (by kernel_rfl) (by kernel_rfl) (Below.refl _ _).drew (fun a b h1 h2 => ⟨below_then h1 h2, fun i _ v => bwF_keep h2 i v⟩) (fun _ _ => Below.refl _ _) ?_ (fun _ _ _ _ h => by cases h) ?_
 ·refine ⟨?_, ?_, ?_, ?_, ?_, ?_, ?_, ?_, ?_, ?_, ?_, ?_, ?_, trivial⟩
  all_goals
   intro vs w5 hp hF
   obtain ⟨z0, z1, z2, z3⟩ := (HC4.out.keep hp).c4
   have z4 : w5.cell? ⟨w.heap.size, 3, none⟩ = some (.slice BA bn bc) := (HP4.out.keep hp).2.1 3
   have z5 : w5.cell? ⟨w.heap.size, 4, none⟩ = some (.slice AA an ac) := (HP4.out.keep hp).2.1 4
   have HX5 := Lib.hid (below_then HB4.out hp)
   clear hp
   simp [depsB, Region.binds, bwF] at hF
   simp [stL, depsB, Region.binds, Act.put, hF]
  all_goals first
   | (go_wp2_with fail; exact ⟨rfl, Below.refl _ _⟩)
   | (go_wp2_with (go_at_call 23; (with_reducible refine (W6.out _).mono ?_); rintro e6 w6 ⟨rfl, rfl⟩); exact ⟨rfl, Below.refl _ _⟩)
   | (go_wp2_with (go_at_call 45; (with_reducible refine (CA.out _ HX5.out).mono ?_); rintro e6 w6 ⟨⟨A6, c6, rfl, hc6, hi6⟩, hb6⟩); first | exact ⟨A6, c6, rfl, hc6, hi6⟩ | exact ⟨⟨A6, c6, rfl, hc6, hi6⟩, hb6⟩)
 intro vs w5 hp hF
 obtain ⟨AB, cAB, e13, hcapAB, hinAB⟩ : ∃ A c, vs 12 = .slice A K c ∧ K ≤ c ∧ Ints w5 A a := hF 12 (by decide) rfl
 show wpList Tryd.prog _ _ [_] _ _
 simp [stL, Act.put, e13]
 have HD5 := Lib.hid (HD4.out.keep hp)
 have HC5 := Lib.hid (HC4.out.keep hp)
 have HP5 := Lib.hid (HP4.out.keep hp)
 have HR5 := Lib.hid (HR4.out.keep hp)
 have HB5 := Lib.hid (below_then HB4.out hp)
 have HBB5 := Lib.hid (And.intro (HBB.out.1.grow hp) HBB.out.2)
 have HAB := Lib.hid (And.intro hinAB hcapAB)
 clear hF e13 hp hinAB hcapAB HD4 HC4 HP4 HR4 HB4 HBB
 generalize w5 = W5' at HD5 HC5 HP5 HR5 HB5 HBB5 HAB ⊢
 go_upto_region 5 with fail
 have b0 : Box (W5'.alloc (.cells zNet12.toArray 27)) W5'.heap.size zNet12 := Box.new rfl
 have hb0 : Below W5'.heap.size W5' (W5'.alloc (.cells zNet12.toArray 27)) := (Below.refl _ _).alloc (Nat.le_refl _) _
 change Code.wp _ _ _ _ (W5'.alloc (.cells zNet12.toArray 27))
 have HNS : Hid (w.heap.size + 1 < W5'.heap.size) := Lib.hid HR5.out.1
 generalize W5'.alloc (.cells zNet12.toArray 27) = W6' at b0 hb0 ⊢
 have HNB := Lib.hid b0
 have HD6' := Lib.hid (HD5.out.keep hb0)
 have HC6' := Lib.hid (HC5.out.keep hb0)
 have HP6 := Lib.hid (HP5.out.keep hb0)
 have HR6 := Lib.hid (HR5.out.keep hb0)
 have HB6 := Lib.hid (below_then HB5.out hb0)
 have HBB6 := Lib.hid (And.intro (HBB5.out.1.grow hb0) HBB5.out.2)
 have HAB6 := Lib.hid (And.intro (HAB.out.1.grow hb0) HAB.out.2)
 clear b0 hb0 HD5 HC5 HP5 HR5 HB5 HBB5 HAB CB CA W9 W6
 obtain ⟨z0, z1, z2, z3⟩ := HD6'.out.c4
 obtain ⟨y0, y1, y2, y3⟩ := HC6'.out.c4
 have x0 : W6'.cell? ⟨w.heap.size, 0, none⟩ = some (.int .i64 kd) := HP6.out.2.1 0
 obtain ⟨nb, hnb⟩ : ∃ k, k = W5'.heap.size := ⟨_, rfl⟩
 rw [← hnb] at HNB HNS ⊢
 clear hnb
 obtain rfl | rfl | rfl | rfl : kk = 0 ∨ kk = 1 ∨ kk = 2 ∨ kk = 3 := by omega
 ·have W4L : Hid (∀ w1, Calls Tryd.prog 23 #[.int .i64 kd, .int .i64 4] w1 fun e w' => e = .returned (.int .i64 0) ∧ w1 = w') := Lib.hid W4.out
  have B0' := B1
  clear W4 B1 B2 B3 B4 CK CV CU W5 HC6'
  go_wp2_with (first
   | (go_at_call 23; (with_reducible refine (W4L.out _).mono ?_); rintro e6 w6 ⟨rfl, rfl⟩)
   | (go_at_call 28; go_loud ((with_reducible refine (B0'.out _ BB AB cBB cAB HBB6.out.1 HAB6.out.1 HBB6.out.2 HAB6.out.2).mono ?_); rintro e8 w8 ⟨n8, NA, nc, XA, xc, rfl, hok, hv, hnt, hb8⟩; obtain ⟨L, hL⟩ : ∃ L, n8.lst NA nc XA xc = L := ⟨_, rfl⟩; rw [hL]; have HL := Lib.hid hL; have hLL : L.length = 12 ∧ L.all (·.oneCell') = true := (by rw [← hL]; exact ⟨rfl, rfl⟩); have HLL := Lib.hid hLL; clear hLL; have HOK := Lib.hid (And.intro hok hv); have HNT := Lib.hid hnt; have HB8 := Lib.hid hb8; have HNB8 := Lib.hid (HNB.out.keep hb8); clear hL hok hv hnt hb8))
   | ((with_reducible show wpList _ _ _ (Oper.mk none (.store 27 (.tmp 8) _) _ _ _ _ :: _) _ _); refine st_netL HNB8.out rfl HLL.out.1 HLL.out.2 rfl _ _ rfl rfl rfl ?_; intro W8 hb9 hg9; have HNB9 := Lib.hid hb9; have HG9 := Lib.hid hg9; clear hb9 hg9)
   | ((with_reducible show wpList _ _ _ (Oper.mk _ (.load 27 _) _ _ _ _ :: _) _ _); refine ld_netB1 HNB9.out HLL.out.1 rfl _ rfl rfl ?_)
   | ((with_reducible show wpList _ _ _ (Oper.mk none (.store 27 (.tmp 2) _) _ _ _ _ :: _) _ _); refine st_netL (((HR6.out.keep HB8.out).grown HG9.out (fun e => by injection e with e; have := HNS.out; omega))) rfl HLL.out.1 HLL.out.2 rfl _ _ rfl rfl rfl ?_; intro W9 hb10 hg10))
  obtain ⟨dsc, hd1, hd2⟩ := row_net
  refine bodyPost_ret (resCT rfl _ _ W9 (g := w.heap.size + 1) (v := .agg L.toArray) rfl (res_box _ hb10 dsc hd1 hd2 (by rw [HLL.out.1]; exact size_net))) rfl ?_
  have h6 := HNB.out.1
  have h2 := HNS.out
  have hn9 := HNT.out.away HG9.out (by first | exact h6 | omega)
  have hn10 := hn9.away hg10 (by first | exact Nat.lt_trans h2 h6 | omega)
  exact ⟨n8, NA, nc, XA, xc, by rw [HL.out]; rfl, HOK.out.1, HOK.out.2, hn10.at, grown_to (grown_to (below_then HB6.out HB8.out) HG9.out (by omega)) hg10 (by omega)⟩
 ·have W4L : Hid (∀ w1, Calls Tryd.prog 23 #[.int .i64 kd, .int .i64 4] w1 fun e w' => e = .returned (.int .i64 1) ∧ w1 = w') := Lib.hid W4.out
  have B0' := B2
  clear W4 B1 B2 B3 B4 CK CV CU W5 HC6'
  go_wp2_with (first
   | (go_at_call 23; (with_reducible refine (W4L.out _).mono ?_); rintro e6 w6 ⟨rfl, rfl⟩)
   | (go_at_call 46; go_loud ((with_reducible refine (B0'.out _ BB AB cBB cAB HBB6.out.1 HAB6.out.1 HBB6.out.2 HAB6.out.2).mono ?_); rintro e8 w8 ⟨n8, NA, nc, XA, xc, rfl, hok, hv, hnt, hb8⟩; obtain ⟨L, hL⟩ : ∃ L, n8.lst NA nc XA xc = L := ⟨_, rfl⟩; rw [hL]; have HL := Lib.hid hL; have hLL : L.length = 12 ∧ L.all (·.oneCell') = true := (by rw [← hL]; exact ⟨rfl, rfl⟩); have HLL := Lib.hid hLL; clear hLL; have HOK := Lib.hid (And.intro hok hv); have HNT := Lib.hid hnt; have HB8 := Lib.hid hb8; have HNB8 := Lib.hid (HNB.out.keep hb8); clear hL hok hv hnt hb8))
   | ((with_reducible show wpList _ _ _ (Oper.mk none (.store 27 (.tmp 8) _) _ _ _ _ :: _) _ _); refine st_netL HNB8.out rfl HLL.out.1 HLL.out.2 rfl _ _ rfl rfl rfl ?_; intro W8 hb9 hg9; have HNB9 := Lib.hid hb9; have HG9 := Lib.hid hg9; clear hb9 hg9)
   | ((with_reducible show wpList _ _ _ (Oper.mk _ (.load 27 _) _ _ _ _ :: _) _ _); refine ld_netB1 HNB9.out HLL.out.1 rfl _ rfl rfl ?_)
   | ((with_reducible show wpList _ _ _ (Oper.mk none (.store 27 (.tmp 2) _) _ _ _ _ :: _) _ _); refine st_netL (((HR6.out.keep HB8.out).grown HG9.out (fun e => by injection e with e; have := HNS.out; omega))) rfl HLL.out.1 HLL.out.2 rfl _ _ rfl rfl rfl ?_; intro W9 hb10 hg10))
  obtain ⟨dsc, hd1, hd2⟩ := row_net
  refine bodyPost_ret (resCT rfl _ _ W9 (g := w.heap.size + 1) (v := .agg L.toArray) rfl (res_box _ hb10 dsc hd1 hd2 (by rw [HLL.out.1]; exact size_net))) rfl ?_
  have h6 := HNB.out.1
  have h2 := HNS.out
  have hn9 := HNT.out.away HG9.out (by first | exact h6 | omega)
  have hn10 := hn9.away hg10 (by first | exact Nat.lt_trans h2 h6 | omega)
  exact ⟨n8, NA, nc, XA, xc, by rw [HL.out]; rfl, HOK.out.1, HOK.out.2, hn10.at, grown_to (grown_to (below_then HB6.out HB8.out) HG9.out (by omega)) hg10 (by omega)⟩
 ·have W4L : Hid (∀ w1, Calls Tryd.prog 23 #[.int .i64 kd, .int .i64 4] w1 fun e w' => e = .returned (.int .i64 2) ∧ w1 = w') := Lib.hid W4.out
  have B0' := B3
  clear W4 B1 B2 B3 B4 CK CV CU W5 HC6'
  go_wp2_with (first
   | (go_at_call 23; (with_reducible refine (W4L.out _).mono ?_); rintro e6 w6 ⟨rfl, rfl⟩)
   | (go_at_call 47; go_loud ((with_reducible refine (B0'.out _ BB AB cBB cAB HBB6.out.1 HAB6.out.1 HBB6.out.2 HAB6.out.2).mono ?_); rintro e8 w8 ⟨n8, NA, nc, XA, xc, rfl, hok, hv, hnt, hb8⟩; obtain ⟨L, hL⟩ : ∃ L, n8.lst NA nc XA xc = L := ⟨_, rfl⟩; rw [hL]; have HL := Lib.hid hL; have hLL : L.length = 12 ∧ L.all (·.oneCell') = true := (by rw [← hL]; exact ⟨rfl, rfl⟩); have HLL := Lib.hid hLL; clear hLL; have HOK := Lib.hid (And.intro hok hv); have HNT := Lib.hid hnt; have HB8 := Lib.hid hb8; have HNB8 := Lib.hid (HNB.out.keep hb8); clear hL hok hv hnt hb8))
   | ((with_reducible show wpList _ _ _ (Oper.mk none (.store 27 (.tmp 8) _) _ _ _ _ :: _) _ _); refine st_netL HNB8.out rfl HLL.out.1 HLL.out.2 rfl _ _ rfl rfl rfl ?_; intro W8 hb9 hg9; have HNB9 := Lib.hid hb9; have HG9 := Lib.hid hg9; clear hb9 hg9)
   | ((with_reducible show wpList _ _ _ (Oper.mk _ (.load 27 _) _ _ _ _ :: _) _ _); refine ld_netB1 HNB9.out HLL.out.1 rfl _ rfl rfl ?_)
   | ((with_reducible show wpList _ _ _ (Oper.mk none (.store 27 (.tmp 2) _) _ _ _ _ :: _) _ _); refine st_netL (((HR6.out.keep HB8.out).grown HG9.out (fun e => by injection e with e; have := HNS.out; omega))) rfl HLL.out.1 HLL.out.2 rfl _ _ rfl rfl rfl ?_; intro W9 hb10 hg10))
  obtain ⟨dsc, hd1, hd2⟩ := row_net
  refine bodyPost_ret (resCT rfl _ _ W9 (g := w.heap.size + 1) (v := .agg L.toArray) rfl (res_box _ hb10 dsc hd1 hd2 (by rw [HLL.out.1]; exact size_net))) rfl ?_
  have h6 := HNB.out.1
  have h2 := HNS.out
  have hn9 := HNT.out.away HG9.out (by first | exact h6 | omega)
  have hn10 := hn9.away hg10 (by first | exact Nat.lt_trans h2 h6 | omega)
  exact ⟨n8, NA, nc, XA, xc, by rw [HL.out]; rfl, HOK.out.1, HOK.out.2, hn10.at, grown_to (grown_to (below_then HB6.out HB8.out) HG9.out (by omega)) hg10 (by omega)⟩
 ·have W4L : Hid (∀ w1, Calls Tryd.prog 23 #[.int .i64 kd, .int .i64 4] w1 fun e w' => e = .returned (.int .i64 3) ∧ w1 = w') := Lib.hid W4.out
  clear W4 B1 B2 B3 HBB6 HAB6
  go_upto_region 7 with (go_at_call 23; (with_reducible refine (W4L.out _).mono ?_); rintro e6 w6 ⟨rfl, rfl⟩)
  have HC6 := HC6'
  have HD6 := HD6'
  clear HC6' HD6' W4L z0 z1 z2 z3 y0 y1 y2 y3 x0
  refine wp_region_grow8 (fun x => Nat.blt x 10) (fun _ => false) (fun wx => Below W6'.heap.size W6' wx) (fun a b => Below a.heap.size a b) (bwF [wordV c0 c1 c2 c3, .int .i64 Q, .int .i64 (Q - 1), .pointer (some ⟨w.heap.size, 4, none⟩), .slice AA an ac, .pointer (some ⟨w.heap.size, 4, none⟩), .slice AA an ac, .int .i64 an, .int .i64 n] 9 n ka) (by kernel_rfl) (by kernel_rfl) (Below.refl _ _).drew (fun a b h1 h2 => ⟨below_then h1 h2, fun i _ v => bwF_keep h2 i v⟩) (fun _ _ => Below.refl _ _) ?_ (fun _ _ _ _ h => by cases h) ?_
  ·refine ⟨?_, ?_, ?_, ?_, ?_, ?_, ?_, ?_, ?_, ?_, trivial⟩
   all_goals
    intro vs w5 hp hF
    obtain ⟨z0, z1, z2, z3⟩ := (HC6.out.keep hp).c4
    obtain ⟨y0, y1, y2, y3⟩ := (HD6.out.keep hp).c4
    have z4 : w5.cell? ⟨w.heap.size, 3, none⟩ = some (.slice BA bn bc) := (HP6.out.keep hp).2.1 3
    have z5 : w5.cell? ⟨w.heap.size, 4, none⟩ = some (.slice AA an ac) := (HP6.out.keep hp).2.1 4
    have HX5 := Lib.hid (below_then HB6.out hp)
    skip
    clear hp
    simp [depsB, Region.binds, bwF] at hF
    simp [stL, depsB, Region.binds, Act.put, hF]
   ·(go_wp2_with fail; exact ⟨rfl, Below.refl _ _⟩)
   ·(go_wp2_with (go_at_call 48; (with_reducible refine (CU.out _).mono ?_); rintro e6 w6 ⟨rfl, hb6⟩); first | exact rfl | exact ⟨rfl, hb6⟩)
   ·(go_wp2_with fail; exact ⟨rfl, Below.refl _ _⟩)
   ·(go_wp2_with fail; exact ⟨rfl, Below.refl _ _⟩)
   ·(go_wp2_with fail; exact ⟨rfl, Below.refl _ _⟩)
   ·(go_wp2_with fail; exact ⟨rfl, Below.refl _ _⟩)
   ·(go_wp2_with fail; exact ⟨rfl, Below.refl _ _⟩)
   ·(go_wp2_with fail; exact ⟨rfl, Below.refl _ _⟩)
   ·(go_wp2_with (go_at_call 23; (with_reducible refine (W5.out _).mono ?_); rintro e6 w6 ⟨rfl, rfl⟩); exact ⟨rfl, Below.refl _ _⟩)
   ·(go_wp2_with (go_at_call 45; (with_reducible refine (CK.out _ HX5.out).mono ?_); rintro e6 w6 ⟨⟨A6, c6, rfl, hc6, hi6⟩, hb6⟩); first | exact ⟨A6, c6, rfl, hc6, hi6⟩ | exact ⟨⟨A6, c6, rfl, hc6, hi6⟩, hb6⟩)
  intro vs w5 hp hF
  obtain ⟨KA, ck, e13, hcapK, hinK⟩ : ∃ A c, vs 9 = .slice A n c ∧ n ≤ c ∧ Ints w5 A ka := hF 9 (by decide) rfl
  show wpList Tryd.prog _ _ [_] _ _
  simp [stL, Act.put, e13]
  have HD7 := Lib.hid (HD6.out.keep hp)
  have HC7 := Lib.hid (HC6.out.keep hp)
  have HP7 := Lib.hid (HP6.out.keep hp)
  have HR7 := Lib.hid (HR6.out.keep hp)
  have HB7 := Lib.hid (below_then HB6.out hp)
  have HNB7 := Lib.hid (HNB.out.keep hp)
  have HKA := Lib.hid hinK
  clear hF e13 hp hinK hcapK HD6 HC6 HP6 HR6 HB6 HNB CK CU W5
  generalize w5 = W7' at HD7 HC7 HP7 HR7 HB7 HNB7 HKA ⊢
  go_upto_region 8 with fail
  refine wp_region_grow8 (fun x => Nat.blt x 19) (fun x => Nat.beq x 18) (fun wx => Below W7'.heap.size W7' wx) (fun a b => Below a.heap.size a b) (bnF W7'.heap.size [.slice KA n ck, .pointer (some ⟨pc, 0, none⟩), .int .i64 c0, .int .i64 e1, .int .u64 e1, .int .i64 E, .int .i64 (E - 1), .pointer (some ⟨w.heap.size, 3, none⟩), .slice BA bn bc, .slice KA n ck, .int .i64 n, .int .i64 N, undef, wordV d0 d1 d2 d3, wordV c0 c1 c2 c3] N vb) (by kernel_rfl) (by kernel_rfl) (Below.refl _ _).drew (fun a b h1 h2 => ⟨below_then h1 h2, fun i _ v => bnF_keep h2 i v⟩) (fun _ _ => Below.refl _ _) ?_ ?_ ?_
  ·refine ⟨?_, ?_, ?_, ?_, ?_, ?_, ?_, ?_, ?_, ?_, ?_, ?_, ?_, ?_, ?_, ?_, ?_, ?_, ?_, trivial⟩
   all_goals
    intro vs w5 hp hF
    obtain ⟨z0, z1, z2, z3⟩ := (HC7.out.keep hp).c4
    obtain ⟨y0, y1, y2, y3⟩ := (HD7.out.keep hp).c4
    have z4 : w5.cell? ⟨w.heap.size, 3, none⟩ = some (.slice BA bn bc) := (HP7.out.keep hp).2.1 3
    have z5 : w5.cell? ⟨w.heap.size, 4, none⟩ = some (.slice AA an ac) := (HP7.out.keep hp).2.1 4
    have HX5 := Lib.hid (below_then HB7.out hp)
    have HK5 := Lib.hid (HKA.out.grow hp)
    have HS5 := Lib.hid hp.size
    clear hp
    simp [depsB, Region.binds, bnF, bwF] at hF
    simp [stL, depsB, Region.binds, Act.put, hF]
   ·(go_wp2_with fail; exact ⟨rfl, Below.refl _ _⟩)
   ·(go_wp2_with fail; exact ⟨rfl, Below.refl _ _⟩)
   ·(go_wp2_with fail; exact ⟨rfl, Below.refl _ _⟩)
   ·(go_wp2_with fail; exact ⟨rfl, Below.refl _ _⟩)
   ·(go_wp2_with fail; exact ⟨rfl, Below.refl _ _⟩)
   ·(go_wp2_with fail; exact ⟨rfl, Below.refl _ _⟩)
   ·(go_wp2_with fail; exact ⟨rfl, Below.refl _ _⟩)
   ·(go_wp2_with fail; exact ⟨rfl, Below.refl _ _⟩)
   ·(go_wp2_with fail; exact ⟨rfl, Below.refl _ _⟩)
   ·(go_wp2_with fail; exact ⟨rfl, Below.refl _ _⟩)
   ·(go_wp2_with fail; exact ⟨rfl, Below.refl _ _⟩)
   ·(go_wp2_with fail; exact ⟨rfl, Below.refl _ _⟩)
   ·(go_wp2_with (go_at_call 45; (with_reducible refine (CV.out _ HX5.out).mono ?_); rintro e6 w6 ⟨⟨A6, c6, rfl, hc6, hi6⟩, hb6⟩); first | exact ⟨A6, c6, rfl, hc6, hi6⟩ | exact ⟨⟨A6, c6, rfl, hc6, hi6⟩, hb6⟩)
   ·(go_wp2_with fail; exact ⟨rfl, Below.refl _ _⟩)
   ·(go_wp2_with fail; exact ⟨rfl, Below.refl _ _⟩)
   ·obtain ⟨-, ⟨A6, c6, e12, hc6, hi6⟩, -, -⟩ := hF
    simp only [e12]
    go_wp2_with (go_at_call 49; (with_reducible refine (B4.out _ A6 KA c6 ck HK5.out hi6).mono ?_); rintro e8 w8 ⟨n8, NA, nc, XA, xc, rfl, hok, hv, hnt, hb8⟩)
    have hnt' := hnt.base HS5.out
    first | exact ⟨n8, NA, nc, XA, xc, rfl, hok, hv, hnt'⟩ | exact ⟨⟨n8, NA, nc, XA, xc, rfl, hok, hv, hnt'⟩, hb8⟩
   ·obtain ⟨n8, NA, nc, XA, xc, e15, hok, hv, hnt⟩ := hF
    simp only [e15]
    go_wp2_with fail
    exact ⟨⟨n8, NA, nc, XA, xc, rfl, hok, hv, hnt⟩, Below.refl _ _⟩
   ·obtain ⟨n8, NA, nc, XA, xc, e15, hok, hv, hnt⟩ := hF
    simp only [e15]
    go_wp2_with fail
    exact ⟨⟨n8, NA, nc, XA, xc, rfl, hok, hv, hnt⟩, Below.refl _ _⟩
   ·obtain ⟨n8, NA, nc, XA, xc, e15, hok, hv, hnt⟩ := hF
    simp only [e15]
    go_wp2_with fail
    exact ⟨rfl, Below.refl _ _⟩
  ·intro j op hop _ hl
   have hj : j = 18 := by simpa using hl
   intro vs w5 hC hF
   subst hj
   injection hop with hop
   subst hop
   obtain ⟨n', NA', nc', XA', xc', e, -⟩ : ∃ (n : NetD) (NA : Option Addr) (nc : Nat) (XA : Option Addr) (xc : Nat), vs 16 = .tuple #[.agg (n.lst NA nc XA xc).toArray, .int .i64 0] ∧ n.ok = true ∧ validB n.prg = true ∧ NetF W7'.heap.size w5 n NA XA := hF 16 (by decide)
   exact ⟨.int .i64 0, fun w' => by simp [execOp, stL, depsB, Region.binds, go_sem, Act.put, e], rfl⟩
  intro vs w5 hp hF
  obtain ⟨n8, NA, nc, XA, xc, e17, hok, hv, hnt⟩ : ∃ (n : NetD) (NA : Option Addr) (nc : Nat) (XA : Option Addr) (xc : Nat), vs 17 = .agg (n.lst NA nc XA xc).toArray ∧ n.ok = true ∧ validB n.prg = true ∧ NetF W7'.heap.size w5 n NA XA := hF 17 (by decide) rfl
  have e18 : vs 18 = .int .i64 0 := hF 18 (by decide) rfl
  have HB6 := HB7
  have HR6 := HR7
  have HNB := HNB7
  have hb8 := hp
  obtain ⟨w8, hw8⟩ : ∃ x, x = w5 := ⟨_, rfl⟩
  rw [← hw8] at hnt hb8 ⊢
  obtain ⟨L, hL⟩ : ∃ L, n8.lst NA nc XA xc = L := ⟨_, rfl⟩
  rw [hL] at e17
  have HL := Lib.hid hL
  have hLL : L.length = 12 ∧ L.all (·.oneCell') = true := (by rw [← hL]; exact ⟨rfl, rfl⟩)
  have HLL := Lib.hid hLL
  have HOK := Lib.hid (And.intro hok hv)
  have HNT := Lib.hid hnt
  have HB8 := Lib.hid hb8
  have HNB8 := Lib.hid (HNB.out.keep hb8)
  clear hL hok hv hnt hb8 hLL hp hF hw8
  show wpList Tryd.prog _ _ [_, _] _ _
  simp [stL, Act.put, e17, e18]
  go_wp2_with (first
   | ((with_reducible show wpList _ _ _ (Oper.mk none (.store 27 (.tmp 8) _) _ _ _ _ :: _) _ _); refine st_netL HNB8.out rfl HLL.out.1 HLL.out.2 rfl _ _ rfl rfl rfl ?_; intro W8 hb9 hg9; have HNB9 := Lib.hid hb9; have HG9 := Lib.hid hg9; clear hb9 hg9)
   | ((with_reducible show wpList _ _ _ (Oper.mk _ (.load 27 _) _ _ _ _ :: _) _ _); refine ld_netB1 HNB9.out HLL.out.1 rfl _ rfl rfl ?_)
   | ((with_reducible show wpList _ _ _ (Oper.mk none (.store 27 (.tmp 2) _) _ _ _ _ :: _) _ _); refine st_netL (((HR6.out.keep HB8.out).grown HG9.out (fun e => by injection e with e; have := HNS.out; omega))) rfl HLL.out.1 HLL.out.2 rfl _ _ rfl rfl rfl ?_; intro W9 hb10 hg10))
  obtain ⟨dsc, hd1, hd2⟩ := row_net
  refine bodyPost_ret (resCT rfl _ _ W9 (g := w.heap.size + 1) (v := .agg L.toArray) rfl (res_box _ hb10 dsc hd1 hd2 (by rw [HLL.out.1]; exact size_net))) rfl ?_
  have h6 := HNB.out.1
  have h2 := HNS.out
  have hn9 := HNT.out.away HG9.out (by first | exact h6 | omega)
  have hn10 := hn9.away hg10 (by first | exact Nat.lt_trans h2 h6 | omega)
  exact ⟨n8, NA, nc, XA, xc, by rw [HL.out]; rfl, HOK.out.1, HOK.out.2, hn10.at, grown_to (grown_to (below_then HB6.out HB8.out) HG9.out (by omega)) hg10 (by omega)⟩
end Go.Proofs.YtdiflpbioohddaaDoor
