/- Machine of package world. -/
import Derived.Test.YtgdccmmcjicgkaaDoorcOdtoS26
import Derived.Test.YtgdccmmcjicgkaaDoorcS11toS14
import Derived.Test.YtgdccmmcjicgkaaDoorcG3toU3
import Derived.Test.YtgdccmmcjicgkaaDoorcE1toI0
import Derived.Test.YtgdccmmcjicgkaaDoorcI1toE12
import Derived.Test.YtgdccmmcjicgkaaDoorcAtoG2
set_option linter.unusedVariables false
set_option linter.unusedSimpArgs false
namespace Go.Proofs.YtgdccmmcjicgkaaDoor
open Go.RowKit
def RetMacW (w : World) (m : Mac) (e : Ending) (w' : World) : Prop := ∃ x : MacA, x.m = m ∧ e = .returned x.v ∧ MacAt w' x ∧ MacF w.heap.size w' x ∧ Below w.heap.size w w'
theorem RetMacW.mk {w w' : World} {m : Mac} {A B H : Option Addr} {an bn hn ac bc hc : Nat} {e : Ending} (he : e = .returned (.agg #[.slice A an ac, .slice B bn bc, .slice H hn hc, .int .i64 m.cyc, .int .i64 m.stl])) (h1 : m.regs.length = an) (h2 : m.mem.length = bn) (h3 : m.heads.length = hn) (i1 : Ints w' A m.regs) (i2 : Ints w' B m.mem) (i3 : Ints w' H m.heads) (hf : MacF w.heap.size w' ⟨m, A, B, H, ac, bc, hc⟩) (hb : Below w.heap.size w w') : RetMacW w m e w' := by
  subst h1 h2 h3
  exact ⟨⟨m, A, B, H, ac, bc, hc⟩, rfl, he, ⟨i1, i2, i3⟩, hf, hb⟩
theorem built_macR (A : Option Addr) (n c : Nat) : Tryd.prog.built 46 [(0, .slice A n c)] = some #[.slice A n c, .slice none 0 0, .slice none 0 0, .int .i64 0, .int .i64 0] := by kernel_rfl
set_option maxRecDepth 100000 in
set_option maxHeartbeats 8000000 in
theorem wd_Machine (u : PrgA) (A : Option Addr) (l : List Int) (n c : Nat) (w : World) (hp : PrgAt w u) (hv : validB u.d = true) (hi : Ints w A l) (hn : l.length = n) :
    Calls Tryd.prog 22 #[u.v, .slice A n c] w (RetMacW w (macF u.d l)) := by
  obtain ⟨rn, hrn⟩ : ∃ k, u.d.rg.length = k := ⟨_, rfl⟩
  have hrl := (valid_rl hv).1
  rw [hrn] at hrl
  have CW : Hid (∀ w1 B bc m, Ints w1 B m → ∀ k j : Nat, m.length = k → j ≤ 1000000 → Calls Tryd.prog 23 #[wordV u.d.d0 u.d.d1 u.d.d2 u.d.d3, .slice B k bc, .int .i64 (j : Int)] w1 fun e w' => ∃ v, e = .returned v ∧ Own w1.heap.size w' v (wordsF u.d.d0 u.d.d1 u.d.d2 u.d.d3 m j) ∧ Below w1.heap.size w1 w') := Lib.hid fun w1 B bc m h k j hk hj => by
    subst hk
    exact wd_Words _ _ _ _ B m bc j w1 hj h
  have CA : Hid (∀ w1 (i : Int), Below w.heap.size w w1 → Calls Tryd.prog 55 #[.slice A n c, .int .i64 i] w1 fun e w' => e = .returned (.int .i64 (atF l i)) ∧ w1 = w') := Lib.hid fun w1 i hb => by
    subst hn
    exact wd_At A l c i w1 (hi.grow hb)
  have HN := Lib.hid hn
  have HI := Lib.hid hi
  have HPW := Lib.hid hp
  have HV := Lib.hid hv
  have HRN := Lib.hid hrn
  have HL : Hid (∀ x ∈ l, I64 x) := Lib.hid hi.2
  have ev : u.v = .agg u.lst.toArray := rfl
  rw [ev]
  clear ev hp hi hv hn hrn
  go_enter Tryd.func22, Tryd.ntmps22
  go_upto_region 1 with fail
  obtain ⟨bp, br, hb0⟩ := entryPM w u.lst zeros5 _ rfl
  change Code.wp _ _ _ _ ((w.alloc (.cells u.lst.toArray 43)).alloc (.cells zeros5.toArray 46))
  generalize ((w.alloc (.cells u.lst.toArray 43)).alloc (.cells zeros5.toArray 46)) = W0 at bp br hb0 ⊢
  have HB0 := Lib.hid hb0
  have HP0 := Lib.hid bp
  have HR0 := Lib.hid br
  have x0 : W0.cell? ⟨w.heap.size, 0, none⟩ = some (.int .i64 u.d.d0) := bp.2.1 0
  have x1 : W0.cell? ⟨w.heap.size, 1, none⟩ = some (.int .i64 u.d.d1) := bp.2.1 1
  have x2 : W0.cell? ⟨w.heap.size, 2, none⟩ = some (.int .i64 u.d.d2) := bp.2.1 2
  have x3 : W0.cell? ⟨w.heap.size, 3, none⟩ = some (.int .i64 u.d.d3) := bp.2.1 3
  clear hb0 bp br
  have CW8 : Hid (Calls Tryd.prog 23 #[wordV u.d.d0 u.d.d1 u.d.d2 u.d.d3, .slice A n c, .int .i64 8] W0 fun e w' => ∃ v, e = .returned v ∧ Own W0.heap.size w' v (wordsF u.d.d0 u.d.d1 u.d.d2 u.d.d3 l 8) ∧ Below W0.heap.size W0 w') := Lib.hid (CW.out W0 A c l (HI.out.grow HB0.out) n 8 HN.out (by decide))
  go_upto_region 2 with (first
    | (go_at_call 23; (with_reducible refine CW8.out.mono ?_); rintro e1 w1 ⟨v1, rfl, ho1, hb1⟩; obtain ⟨RA, rc, rfl, -⟩ := own_form ho1.1; rw [wordsF_length] at ho1 ⊢)
    | ((with_reducible show wpList _ _ _ (Oper.mk _ (.build _ _) _ _ _ _ :: _) _ _); refine wp_bldR rfl 46 _ rfl _ rfl (built_macR RA 8 rc) ?_)
    | ((with_reducible show wpList _ _ _ (Oper.mk _ (.store 46 _ _) _ _ _ _ :: _) _ _); refine st_mac (L := [.slice RA 8 rc, .slice none 0 0, .slice none 0 0, .int .i64 0, .int .i64 0]) (Box.new (w := w1) (t := 46) (vs := zeros5.toArray) rfl) rfl rfl rfl rfl _ _ rfl rfl rfl ?_; intro w2 hb2 hg2))
  -- BEHIND REGION 1
  have hb12 := put_facts ((Below.refl w1.heap.size w1).alloc (Nat.le_refl _) (.cells zeros5.toArray 46)) (Nat.le_refl _) hg2
  have HB2 := Lib.hid (below_then (below_then HB0.out hb1) hb12)
  have HP2 := Lib.hid ((HP0.out.keep hb1).keep hb12)
  have HR2 := Lib.hid ((HR0.out.keep hb1).keep hb12)
  have HX2 := Lib.hid hb2
  have HO2 := Lib.hid (ho1.grow hb12)
  have hgl : w.heap.size + 2 ≤ W0.heap.size := by have := HR0.out.1; omega
  have HGL := Lib.hid (show w.heap.size + 2 ≤ W0.heap.size ∧ W0.heap.size ≤ w1.heap.size from ⟨hgl, hb1.size⟩)
  have HRQ : Hid (∀ q, (Value.slice RA 8 rc).ownBlock = some q → q < w1.heap.size) := Lib.hid (own_lt ho1)
  clear hb1 hb12 hg2 ho1 hgl hb2 x0 x1 x2 x3 HB0 HP0 HR0 CW8
  generalize W0.heap.size = C0 at HO2 HGL
  generalize w1.heap.size = g at HX2 HGL HRQ ⊢
  go_wp2_with fail
  go_loopw [6, 7] (fun v i wr => ∃ k : Nat, k ≤ 128 ∧ i = .int .i64 k ∧ Hid (Own w2.heap.size wr v (shiftedF l k)) ∧ Hid (Below w2.heap.size w2 wr)) (fun _ i _ => 128 - (intOf i).toNat)
  case atStart => exact ⟨0, Nat.zero_le _, rfl, Lib.hid Own.nil, Lib.hid (Below.refl _ _)⟩
  case round =>
    obtain ⟨k, hk, rfl, HOW, HBW⟩ := hrel
    by_cases hlt : k < 128
    · have q2 : (k : Int) < 128 := by omega
      have hrm : (k : Int).tmod 17 = ((k % 17 : Nat) : Int) := by rw [Int.tmod_eq_emod_of_nonneg (by omega)]; omega
      have hr1 : (0 : Int) ≤ ((k % 17 : Nat) : Int) := by omega
      have wk : IntKind.i64.wrap ((k : Int) + 1) = ((k + 1 : Nat) : Int) := (IntWalk.i64_in _ (by omega)).trans (by omega)
      have CAK := Lib.hid (CA.out wr ((k % 17 : Nat) : Int) (below_then HB2.out HBW.out))
      have HS := Lib.hid (shiftedF_succ l k)
      have hl' : (shiftedF l k).length < 100000000 := by rw [shiftedF_length]; omega
      obtain ⟨m, hm⟩ : ∃ m : Nat, k % 17 = m := ⟨_, rfl⟩
      rw [hm] at hrm hr1 CAK HS
      obtain ⟨av, ha⟩ : ∃ v, atF l (m : Int) = v := ⟨_, rfl⟩
      rw [ha] at CAK HS
      obtain ⟨Y, hY⟩ : ∃ Y, IntKind.i64.wrap (av + (k : Int)) = Y := ⟨_, rfl⟩
      have hY2 : wrap64 (av + (k : Int)) = Y := (IntWalk.i64_left _).symm.trans hY
      have hI : I64 Y := hY2 ▸ wrap64_I64 _
      rw [hY2] at HS
      clear hm ha hY2
      go_wp2_with (first
        | (go_at_call 55; (with_reducible refine CAK.out.mono ?_); rintro e w' ⟨rfl, rfl⟩)
        | (at_builtin; refine app_int wr rfl _ _ rfl w2.heap.size HOW.out rfl rfl hl' HBW.out.size hI ?_; intro v1 w5 hown1 hbel1))
      go_roundw
      case rel => exact ⟨k + 1, by omega, by go_num, by rw [HS.out]; exact Lib.hid hown1, Lib.hid (HBW.out.trans hbel1)⟩
      case measure => simp [intOf]; omega
    · obtain rfl : k = 128 := by omega
      clear hlt
      have hsl : (shiftedF l 128).length = 128 := shiftedF_length _ _
      obtain ⟨SA, sc, e6, -⟩ := own_form HOW.out.1
      rw [hsl] at e6
      subst e6
      have HSI : Hid (Ints wr SA (shiftedF l 128)) := Lib.hid (Own.ints HOW.out)
      have HP3 := Lib.hid (HP2.out.keep HBW.out)
      have x0 : wr.cell? ⟨w.heap.size, 0, none⟩ = some (.int .i64 u.d.d0) := HP3.out.2.1 0
      have x1 : wr.cell? ⟨w.heap.size, 1, none⟩ = some (.int .i64 u.d.d1) := HP3.out.2.1 1
      have x2 : wr.cell? ⟨w.heap.size, 2, none⟩ = some (.int .i64 u.d.d2) := HP3.out.2.1 2
      have x3 : wr.cell? ⟨w.heap.size, 3, none⟩ = some (.int .i64 u.d.d3) := HP3.out.2.1 3
      have CW8 : Hid (Calls Tryd.prog 23 #[wordV u.d.d0 u.d.d1 u.d.d2 u.d.d3, .slice SA 128 sc, .int .i64 128] wr fun e w' => ∃ v, e = .returned v ∧ Own wr.heap.size w' v (wordsF u.d.d0 u.d.d1 u.d.d2 u.d.d3 (shiftedF l 128) 128) ∧ Below wr.heap.size wr w') := Lib.hid (CW.out wr SA sc (shiftedF l 128) HSI.out 128 128 hsl (by decide))
      have HX3 := Lib.hid (HX2.out.keep HBW.out)
      clear hsl hk
      go_upto_region 8 with (go_at_call 23; (with_reducible refine CW8.out.mono ?_); rintro e1 w3 ⟨v3, rfl, ho3, hb3⟩; obtain ⟨MA, mc, rfl, -⟩ := own_form ho3.1; rw [wordsF_length] at ho3 ⊢; have f1 : w3.frozen? ⟨g, 1, none⟩ = false := (HX3.out.keep hb3).2.2 1; have z1 : w3.cell? ⟨g, 1, none⟩ = some (.slice none 0 0) := (HX3.out.keep hb3).2.1 1)
      have HX4 : Hid (Box (w3.setCell ⟨g, 1, none⟩ (.slice MA 128 mc)) g [.slice RA 8 rc, .slice MA 128 mc, .slice none 0 0, .int .i64 0, .int .i64 0]) := Lib.hid ((HX3.out.keep hb3).set (k := 1) (u := .slice MA 128 mc) (by show 1 < 5; omega))
      have hgr : g < wr.heap.size := HX3.out.1
      have hgg : w.heap.size + 2 ≤ g := by have := HGL.out; omega
      have HGG := Lib.hid hgg
      have HM4 := Lib.hid (ho3.store (g := g) (k := 1) (u := .slice MA 128 mc) hgr)
      have HMQ0 : Hid (∀ q, (Value.slice MA 128 mc).ownBlock = some q → q < w3.heap.size) := Lib.hid (own_lt ho3)
      have HMQ : Hid (∀ q, (Value.slice MA 128 mc).ownBlock = some q → q < (w3.setCell ⟨g, 1, none⟩ (.slice MA 128 mc)).heap.size) := by rw [set_size]; exact HMQ0
      have HNR : Hid ((Value.slice RA 8 rc).ownBlock ≠ some g) := Lib.hid fun e => by have := HRQ.out g e; omega
      have HR4 := Lib.hid (own_keptI ((HO2.out.grow HBW.out).grow hb3) (grown_set (k := 1) (u := .slice MA 128 mc) (grown_refl w3 (some g))) HNR.out)
      have HP4 := Lib.hid (Box.past (b := g) (k := 1) (u := .slice MA 128 mc) (HP3.out.keep hb3) (by omega))
      have HZ4 := Lib.hid (Box.past (b := g) (k := 1) (u := .slice MA 128 mc) ((HR2.out.keep HBW.out).keep hb3) (by omega))
      have HB4 := Lib.hid (below_set (k := 1) (u := .slice MA 128 mc) (below_then (below_then HB2.out HBW.out) hb3) (show w.heap.size ≤ g by omega))
      have HG4 : Hid (g < (w3.setCell ⟨g, 1, none⟩ (.slice MA 128 mc)).heap.size ∧ wr.heap.size ≤ (w3.setCell ⟨g, 1, none⟩ (.slice MA 128 mc)).heap.size) := by rw [set_size]; exact Lib.hid ⟨Nat.lt_of_lt_of_le hgr hb3.size, hb3.size⟩
      have HGC : Hid (g < wr.heap.size) := Lib.hid hgr
      clear HMQ0 HX3 HX2 HO2 HB2 HP2 HR2 HP3 HBW HOW x0 x1 x2 x3 hb3 ho3 f1 z1 hgr hgg CW8 HSI
      generalize w3.setCell ⟨g, 1, none⟩ (.slice MA 128 mc) = W4 at HX4 HM4 HR4 HP4 HZ4 HB4 HG4 HMQ ⊢
      generalize wr.heap.size = CM at HM4 HG4 HGC
      go_wp2_with fail
      go_loopw [8] (fun i wr => ∃ (k : Nat) (hv : Value), k ≤ rn ∧ i = .int .i64 k ∧ Hid (Box wr g [.slice RA 8 rc, .slice MA 128 mc, hv, .int .i64 0, .int .i64 0]) ∧ Hid (Own W4.heap.size wr hv (headsF u.d.rg l k)) ∧ Hid (Own C0 wr (.slice RA 8 rc) (wordsF u.d.d0 u.d.d1 u.d.d2 u.d.d3 l 8)) ∧ Hid (Own CM wr (.slice MA 128 mc) (wordsF u.d.d0 u.d.d1 u.d.d2 u.d.d3 (shiftedF l 128) 128)) ∧ Hid (Box wr w.heap.size u.lst) ∧ Hid (Box wr (w.heap.size + 1) zeros5) ∧ Hid (Below w.heap.size w wr) ∧ Hid (W4.heap.size ≤ wr.heap.size)) (fun i _ => rn - (intOf i).toNat)
      case atStart => exact ⟨0, .slice none 0 0, Nat.zero_le _, rfl, HX4, Lib.hid Own.nil, HR4, HM4, HP4, HZ4, HB4, Lib.hid (Nat.le_refl _)⟩
      case round =>
        obtain ⟨k, hv, hk, rfl, HX, HH, HR, HM, HP, HZ, HB, HSZ⟩ := hrel
        have x8 : wr.cell? ⟨w.heap.size, 8, none⟩ = some (.slice u.RA rn u.rc) := (HP.out.2.1 8).trans (lst_eight HRN.out)
        by_cases hlt : k < rn
        · obtain ⟨HA, hc, e, -⟩ := own_form HH.out.1
          rw [headsF_length] at e
          subst e
          obtain ⟨⟨xb, xl⟩, hxr⟩ : ∃ x, u.d.rg[k]? = some x := ⟨_, List.getElem?_eq_getElem (by rw [HRN.out]; exact hlt)⟩
          have hri := (valid_rl HV.out).2 _ (List.mem_of_getElem? hxr)
          have hin := ringIn_iff.1 hri
          simp only at hin
          have hgd : u.d.rg.getD k (0, 0) = (xb, xl) := by rw [List.getD_eq_getElem?_getD, hxr]; rfl
          obtain ⟨ad, hA, hsp, hbl, hrr, -⟩ := (HPW.out.1.grow HB.out) k (xb, xl) hxr
          have q1 : (0 : Int) ≤ (k : Int) := by omega
          have q2 : (k : Int) < (rn : Int) := by omega
          have wk : IntKind.i64.wrap ((k : Int) + 1) = ((k + 1 : Nat) : Int) := (IntWalk.i64_in _ (by omega)).trans (by omega)
          have wk3 : IntKind.i64.wrap ((k : Int) + 3) = (k : Int) + 3 := IntWalk.i64_in _ (by omega)
          obtain ⟨av, ha⟩ : ∃ v, atF l ((k : Int) + 3) = v := ⟨_, rfl⟩
          obtain ⟨y, hy⟩ : ∃ v, withinF av xl = v := ⟨_, rfl⟩
          have hyb := within_in (m := xl) (by omega) av
          rw [hy] at hyb
          have hyI : I64 y := ⟨by omega, by omega⟩
          have CAK : Hid (∀ w1, Below wr.heap.size wr w1 → Calls Tryd.prog 55 #[.slice A n c, .int .i64 ((k : Int) + 3)] w1 fun e w' => e = .returned (.int .i64 av) ∧ w1 = w') := Lib.hid fun w1 hb => ha ▸ CA.out w1 ((k : Int) + 3) (below_then HB.out hb)
          have CWN : Hid (∀ w1, Calls Tryd.prog 26 #[.int .i64 av, .int .i64 xl] w1 fun e w' => e = .returned (.int .i64 y) ∧ w1 = w') := Lib.hid fun w1 => hy ▸ wd_Within av xl w1 (by omega)
          have HS : Hid (headsF u.d.rg l (k + 1) = headsF u.d.rg l k ++ [y]) := Lib.hid (by rw [headsF_succ, hgd, ha, hy])
          have HRR := Lib.hid hrr
          have HSP := Lib.hid hsp
          have HYI := Lib.hid hyI
          rw [hA] at x8
          clear hxr hri hin hgd hA hsp hrr ha hy hyb hyI
          go_upto_region 11 with fail
          refine wp_region_grow8 (fun x => Nat.blt x 14) (fun _ => false) (fun w2 => Below wr.heap.size wr w2) (fun a b => Below a.heap.size a b) (dF wr.heap.size [.v (.pointer (some ⟨g, 2, none⟩)), .v (.slice HA k hc), .v (.slice A n c), .v (.int .i64 (k : Int)), .v (.int .i64 ((k : Int) + 3)), .v (.int .i64 av), .v (.pointer (some ⟨w.heap.size, 8, none⟩)), .v (.slice (some ad) rn u.rc), .v (.int .i64 (k : Int)), .v (.pointer (some (ad.add (k * 2)))), .v (.pointer (some ⟨(ad.add (k * 2)).block, (ad.add (k * 2)).off + 1, none⟩)), .v (.int .i64 xl), .v (.int .i64 y), .row [y]]) (by kernel_rfl) (by kernel_rfl) (Below.drew (Below.refl _ _)) (fun a b h1 h2 => ⟨below_then h1 h2, fun i _ v => dF_keep h2 i v⟩) (fun w _ => Below.refl _ _) ?_ (fun j o _ _ h => by cases h) ?_
          · refine ⟨?_, ?_, ?_, ?_, ?_, ?_, ?_, ?_, ?_, ?_, ?_, ?_, ?_, ?_, trivial⟩
            all_goals
              intro vs w5 hp hF
              have x8 : w5.cell? ⟨w.heap.size, 8, none⟩ = some (.slice (some ad) rn u.rc) := ((Below.cell hp HP.out.1).trans x8)
              have z2 : w5.cell? ⟨g, 2, none⟩ = some (.slice HA k hc) := (HX.out.keep hp).2.1 2
              obtain ⟨-, r1⟩ := ring_cells HSP.out (range_keepI HRR.out hbl hp)
              simp only at r1
              have HP5 := Lib.hid hp
              clear hp
              simp [depsB, Region.binds, dF] at hF
              simp [stL, depsB, Region.binds, Act.put, hF]
            all_goals first
              | (go_wp2_with fail; exact ⟨rfl, Below.refl _ _⟩)
              | (go_wp2_with (go_at_call 55; (with_reducible refine (CAK.out _ HP5.out).mono ?_); rintro e6 w6 ⟨rfl, rfl⟩); exact ⟨rfl, Below.refl _ _⟩)
              | (go_wp2_with (go_at_call 26; (with_reducible refine (CWN.out _).mono ?_); rintro e6 w6 ⟨rfl, rfl⟩); exact ⟨rfl, Below.refl _ _⟩)
              | (go_wp2_with fail; exact ⟨rowI_lit rfl rfl (fun x hx => by rw [List.mem_singleton.1 hx]; exact HYI.out) HP5.out.size, (Below.refl _ _).alloc (Nat.le_refl _) _⟩)
          intro vs w5 hp hF
          have e1 : vs 1 = .slice HA k hc := hF 1 (by decide) rfl
          obtain ⟨RB, ⟨rbc, e13⟩, hrow⟩ := hF 13 (by decide) rfl
          show wpList Tryd.prog _ _ [_, _, _] _ _
          simp [stL, Act.put, e1, e13]
          clear hF e1 e13
          have HX5 := Lib.hid (HX.out.keep hp)
          have HR5 := Lib.hid (HR.out.grow hp)
          have HM5 := Lib.hid (HM.out.grow hp)
          have HP5 := Lib.hid (HP.out.keep hp)
          have HZ5 := Lib.hid (HZ.out.keep hp)
          have HB5 := Lib.hid (below_then HB.out hp)
          have hlen : (headsF u.d.rg l k).length + 1 ≤ 100000000 := by rw [headsF_length]; omega
          have hs5 : W4.heap.size ≤ w5.heap.size := Nat.le_trans HSZ.out hp.size
          have hown := HH.out.grow hp
          clear hp
          refine app_intsN w5 rfl _ _ rfl W4.heap.size rfl rfl rfl hown hrow.1 hlen hs5 ?_
          intro v6 w6 ho6 hb6
          obtain ⟨H6, c6, e6, -⟩ := own_form ho6.1
          have hl6 : (headsF u.d.rg l k ++ [y]).length = k + 1 := by rw [List.length_append, headsF_length]; rfl
          rw [hl6] at e6
          subst e6
          have hgs : g < W4.heap.size := HG4.out.1
          have hgg := HGG.out
          have bX := HX5.out.block (hb6.block g hgs) hb6.size
          have bP := HP5.out.block (hb6.block w.heap.size (by omega)) hb6.size
          have bZ := HZ5.out.block (hb6.block (w.heap.size + 1) (by omega)) hb6.size
          have oR : Own C0 w6 (.slice RA 8 rc) (wordsF u.d.d0 u.d.d1 u.d.d2 u.d.d3 l 8) := ⟨own_und HR5.out.1 hb6 (fun q e => by have := HRQ.out q e; omega), HR5.out.2⟩
          have oM : Own CM w6 (.slice MA 128 mc) (wordsF u.d.d0 u.d.d1 u.d.d2 u.d.d3 (shiftedF l 128) 128) := ⟨own_und HM5.out.1 hb6 HMQ.out, HM5.out.2⟩
          have bB := HB5.out.trans (hb6.mono (show w.heap.size ≤ W4.heap.size by omega))
          have HX7 : Hid (Box (w6.setCell ⟨g, 2, none⟩ (.slice H6 (k + 1) c6)) g [.slice RA 8 rc, .slice MA 128 mc, .slice H6 (k + 1) c6, .int .i64 0, .int .i64 0]) := Lib.hid (bX.set (k := 2) (u := .slice H6 (k + 1) c6) (by show 2 < 5; omega))
          have HH7 : Hid (Own W4.heap.size (w6.setCell ⟨g, 2, none⟩ (.slice H6 (k + 1) c6)) (.slice H6 (k + 1) c6) (headsF u.d.rg l (k + 1))) := by rw [HS.out]; exact Lib.hid (ho6.store hgs)
          have HR7 := Lib.hid (own_keptI oR (grown_set (k := 2) (u := .slice H6 (k + 1) c6) (grown_refl w6 (some g))) HNR.out)
          have HM7 := Lib.hid (Own.store (g := g) (k := 2) (u := .slice H6 (k + 1) c6) oM HGC.out)
          have HP7 := Lib.hid (Box.past (b := g) (k := 2) (u := .slice H6 (k + 1) c6) bP (by omega))
          have HZ7 := Lib.hid (Box.past (b := g) (k := 2) (u := .slice H6 (k + 1) c6) bZ (by omega))
          have HB7 := Lib.hid (below_set (k := 2) (u := .slice H6 (k + 1) c6) bB (show w.heap.size ≤ g by omega))
          have HS7 : Hid (W4.heap.size ≤ (w6.setCell ⟨g, 2, none⟩ (.slice H6 (k + 1) c6)).heap.size) := by rw [set_size]; exact Lib.hid (Nat.le_trans hs5 hb6.size)
          have f2 : w6.frozen? ⟨g, 2, none⟩ = false := bX.2.2 2
          have z2 : w6.cell? ⟨g, 2, none⟩ = some (.slice HA k hc) := bX.2.1 2
          clear hgs hgg bX bP bZ oR oM bB hown hs5 ho6 hb6 HX5 HR5 HM5 HP5 HZ5 HB5 hrow hlen hl6
          simp only [Act.put]
          go_wp2_with fail
          go_roundw
          case rel => exact ⟨k + 1, _, by omega, by go_num, HX7, HH7, HR7, HM7, HP7, HZ7, HB7, HS7⟩
          case measure => simp [intOf]; omega
        · obtain rfl : k = rn := by omega
          obtain ⟨HA, hc, e, -⟩ := own_form HH.out.1
          rw [headsF_length] at e
          subst e
          obtain ⟨dsc, hd1, hd2⟩ := row_mac
          go_wp2_with (first
            | ((with_reducible show wpList _ _ _ (Oper.mk _ (.load 46 _) _ _ _ _ :: _) _ _); refine ld_mac HX.out rfl rfl _ rfl rfl ?_)
            | ((with_reducible show wpList _ _ _ (Oper.mk _ (.store 46 _ _) _ _ _ _ :: _) _ _); refine st_mac (L := [.slice RA 8 rc, .slice MA 128 mc, .slice HA k hc, .int .i64 0, .int .i64 0]) HZ.out rfl rfl rfl rfl _ _ rfl rfl rfl ?_; intro w9 hb9 hg9))
          refine bodyPost_ret (resC rfl _ _ w9 (g := w.heap.size + 1) (v := .agg [.slice RA 8 rc, .slice MA 128 mc, .slice HA k hc, .int .i64 0, .int .i64 0].toArray) rfl (res_box _ hb9 dsc hd1 hd2 size_mac)) rfl ?_
          have hgs : g < W4.heap.size := HG4.out.1
          have hgg := HGG.out
          have hgc := HGC.out
          have hgl := HGL.out
          have o1 : Own C0 w9 (.slice RA 8 rc) _ := ⟨own_setsI HR.out.1 hg9 (by omega), HR.out.2⟩
          have o2 : Own CM w9 (.slice MA 128 mc) _ := ⟨own_setsI HM.out.1 hg9 (by omega), HM.out.2⟩
          have o3 : Own W4.heap.size w9 (.slice HA k hc) _ := ⟨own_setsI HH.out.1 hg9 (by omega), HH.out.2⟩
          refine RetMacW.mk (m := macF u.d l) rfl (wordsF_length ..) (wordsF_length ..) ?_ o1.ints o2.ints ?_ ⟨fun _ => own_ty (o1.base (by omega)), fun _ => own_ty (o2.base (by omega)), fun _ => own_ty (n := k) (c := hc) (l := headsF u.d.rg l k) (o3.base (by omega))⟩ (grown_toI HB.out hg9 (by omega))
          · show (headsF u.d.rg l u.d.rg.length).length = k
            rw [headsF_length]; exact HRN.out
          · show Ints w9 HA (headsF u.d.rg l u.d.rg.length)
            rw [HRN.out]; exact o3.ints
end Go.Proofs.YtgdccmmcjicgkaaDoor
