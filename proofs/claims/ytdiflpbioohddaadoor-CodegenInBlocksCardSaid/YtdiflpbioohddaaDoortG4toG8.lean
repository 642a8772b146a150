/- Several texts in one: G4 G7 G8. -/
import Derived.Test.YtdiflpbioohddaaDoortV3toG3
set_option linter.unusedVariables false
set_option linter.unusedSimpArgs false
section
namespace Go.Proofs.YtdiflpbioohddaaDoor
open Go.RowKit
def BoolBw (w : World) (b : Bool) (e : Ending) (w' : World) : Prop := e = .returned (.bool b) ∧ Below w.heap.size w w'
abbrev netV (d0 d1 d2 d3 c0 c1 c2 c3 st : Int) (NA : Option Addr) (nn nc : Nat) (XA : Option Addr) (xn xc : Nat) (out : Int) : Value :=
 .agg #[.int .i64 d0, .int .i64 d1, .int .i64 d2, .int .i64 d3, .int .i64 c0, .int .i64 c1, .int .i64 c2, .int .i64 c3, .int .i64 st, .slice NA nn nc, .slice XA xn xc, .int .i64 out]
def lenV : Value → Nat
 | .slice _ n _ => n
 | _ => 0
def itI (nx : List Int) (s k : Nat) : Int := match itF nx s k with | some x => (x : Int) | none => -1
theorem itI_some {nx : List Int} {s k x : Nat} (h : itF nx s k = some x) : itI nx s k = (x : Int) := by unfold itI; rw [h]
theorem itI_none {nx : List Int} {s k : Nat} (h : itF nx s k = none) : itI nx s k = -1 := by unfold itI; rw [h]
theorem Own.away {base n c : Nat} {w : World} {A : Option Addr} {l : List Int} (h : Own base w (.slice A n c) l) : ∀ a, A = some a → base ≤ a.block := fun a e => by subst e; exact (h.1.lt a.block rfl).1
theorem Own.one {w : World} {x : Int} (hx : I64 x) : Own w.heap.size (w.alloc (.cells #[.int .i64 x] 3)) (.slice (some ⟨w.heap.size, 0, none⟩) 1 1) [x] := by
 refine ⟨⟨rfl, .inr ⟨w.heap.size, 1, #[.int .i64 x], rfl, Nat.le_refl _, heap_alloc_new w _, Nat.le_refl _, by unfold maxLen; decide, by first | simp | rfl, by first | simp | rfl⟩⟩, fun y hy => ?_⟩
 simp at hy; subst hy; exact hx
theorem itI_succ {nx : List Int} {s k x : Nat} (h : itF nx s k = some x) : itI nx s (k + 1) = follI nx x := by
 have e : itF nx s (k + 1) = foll nx x := by show (itF nx s k).bind (foll nx) = _; rw [h]; rfl
 unfold itI
 rw [e, follI_eq]
 all_goals (cases foll nx x <;> rfl)
set_option maxRecDepth 100000 in
set_option maxHeartbeats 4000000 in
theorem cg_Chains (d0 d1 d2 d3 c0 c1 c2 c3 st out : Int) (NA XA : Option Addr) (nn nc xn xc : Nat) (nx : List Int) (b : Bool) (w : World)
  (hv : ∀ w', Below w.heap.size w w' → Calls Tryd.prog 34 #[netV d0 d1 d2 d3 c0 c1 c2 c3 st NA nn nc XA xn xc out] w' (BoolBw w' b)) (hX : Ints w XA nx) (hb : b = true → st = (xn : Int) ∧ nx.length = xn ∧ xn ≤ 64) :
  Calls Tryd.prog 30 #[netV d0 d1 d2 d3 c0 c1 c2 c3 st NA nn nc XA xn xc out] w (RetIntsL w (if b then lnF nx xn else []) (if b then 0 else 2)) := by
 have hal := fun o => Below.alloc (Below.refl w.heap.size w) (Nat.le_refl _) o
 have HAL := Lib.hid hal
 have HV := Lib.hid (fun o => hv _ (hal o))
 have HX := Lib.hid hX
 clear hal hv hX
 unfold netV at HV ⊢
 cases b with
 | false =>
  clear hb
  go_enter Tryd.func30, Tryd.ntmps30
  go_wp2_with (go_at_call 34; refine (HV.out _).mono ?_; rintro e w1 ⟨rfl, hb1⟩)
  go_ret2
  exact ⟨none, 0, rfl, IntsL.nil, (HAL.out _).trans (hb1.mono (HAL.out _).size)⟩
 | true =>
  obtain ⟨rfl, hxl, hx6⟩ := hb rfl
  have HXL := Lib.hid hxl
  clear hb hxl
  go_enter Tryd.func30, Tryd.ntmps30
  go_wp2_with fail
  have hc : ∀ o, (o = Obj.cells #[.int .i64 d0, .int .i64 d1, .int .i64 d2, .int .i64 d3, .int .i64 c0, .int .i64 c1, .int .i64 c2, .int .i64 c3, .int .i64 (xn : Int), .slice NA nn nc, .slice XA xn xc, .int .i64 out] 27) →
    (w.alloc o).cell? ⟨w.heap.size, 8, none⟩ = some (.int .i64 (xn : Int)) ∧ (w.alloc o).cell? ⟨w.heap.size, 10, none⟩ = some (.slice XA xn xc) ∧ w.heap.size < (w.alloc o).heap.size := fun o e => by subst e; exact ⟨by simp [go_sem], by simp [go_sem], by simp⟩
  obtain ⟨q8, q10, qlt⟩ := hc _ rfl
  have HQ8 := Lib.hid q8
  have HQ10 := Lib.hid q10
  have HQL := Lib.hid qlt
  refine (HV.out _).mono ?_
  rintro e w1 ⟨rfl, hb1⟩
  have e8 := (hb1.cell HQL.out).trans HQ8.out
  have e10 := (hb1.cell HQL.out).trans HQ10.out
  have hqw : w.heap.size < w1.heap.size := Nat.lt_of_lt_of_le HQL.out hb1.size
  have HB1 := Lib.hid ((HAL.out _).trans (hb1.mono (HAL.out _).size))
  have E8 := Lib.hid e8
  have E10 := Lib.hid e10
  have hx8 : xn ≤ 100000000 := by omega
  clear hb1 hc q8 q10 qlt HV
  go_wp2_with (first
   | (at_make; refine mk_int rfl _ _ rfl w1.heap.size xn rfl rfl rfl hx8 (Nat.le_refl _) ?_; intro w2 ho1 hb2; have e8 := (hb2.cell hqw).trans E8.out)
   | (at_make; refine mk_bool rfl _ _ rfl w1.heap.size xn rfl rfl rfl hx8 hb2.size ?_; intro w3 ho2 hb3))
  have hg12 : w1.heap.size < w2.heap.size := ho1.block.2
  have ho1 := ho1.grow hb3
  have hbw := hb2.trans (hb3.mono hb2.size)
  have hga : Own w1.heap.size w3 (.slice (some ⟨w1.heap.size, 0, none⟩) xn xn) (foN nx xn 0) := by rw [foN_zero]; exact ho1
  have hgb : OwnT w1.heap.size w3 w2.heap.size xn (ldN nx xn 0) := by rw [ldN_zero]; exact ho2
  have hne : w1.heap.size ≠ w2.heap.size := by omega
  have hne2 : w2.heap.size ≠ w1.heap.size := by omega
  have hge : w1.heap.size ≤ w2.heap.size := by omega
  have HX1 := Lib.hid (HX.out.grow HB1.out)
  clear ho1 ho2 hb2 hb3 e8 e10 hg12
  go_wp2_with fail
  go_loopw [6, 22] (fun _ i wr => ∃ k : Nat, k ≤ xn ∧ i = .int .i64 k ∧ Own w1.heap.size wr (.slice (some ⟨w1.heap.size, 0, none⟩) xn xn) (foN nx xn k) ∧ OwnT w1.heap.size wr w2.heap.size xn (ldN nx xn k) ∧ Below w1.heap.size w1 wr) (fun _ i _ => xn - (intOf i).toNat)
  case atStart => exact ⟨0, Nat.zero_le _, rfl, hga, hgb, hbw⟩
  case round =>
   obtain ⟨k, hk, rfl, ha, hb, hbr⟩ := hrel
   by_cases hlt : k < xn
   ·have e8 := (hbr.cell hqw).trans E8.out
    have e10 := (hbr.cell hqw).trans E10.out
    have HS := Lib.hid (foN_succ (nx := nx) hlt)
    have hold := foN_get (nx := nx) (k := k) hlt
    rw [if_neg (Nat.lt_irrefl _)] at hold
    have ct := ha.cell hold
    have cf := ha.free k
    have hix : ∀ w, Ints w XA nx → Calls Tryd.prog 66 #[.slice XA xn xc, .int .i64 ((k : Int) + 1)] w fun e w' => e = .returned (.int .i64 (follI nx k)) ∧ w = w' := fun w h => sl_Index XA nx xc xn ((k : Int) + 1) w HXL.out (by omega) h
    have HIX := Lib.hid hix
    have HXr := Lib.hid (HX1.out.grow hbr)
    have x1 : (0 : Int) ≤ (k : Int) := by omega
    have x2 : (k : Int) < (xn : Int) := by omega
    have x3 : IntKind.i64.wrap ((k : Int) + 1) = (k : Int) + 1 := IntWalk.i64_in _ (by omega)
    have HBR := Lib.hid hbr
    clear hix hold
    rcases hf : foll nx k with _ | b
    ·have HN := Lib.hid (ldN_none (S := xn) hf)
     have HF := Lib.hid (follI_none hf)
     clear hf
     go_wp2_with (go_at_call 66; refine (HIX.out _ HXr.out).mono ?_; rintro e w4 ⟨rfl, rfl⟩; rw [HF.out])
     go_roundw
     case rel => exact ⟨k + 1, by omega, by go_num, by rw [HS.out, HF.out]; exact ha.set k ⟨by decide, by decide⟩, by rw [HN.out]; exact hb.other hne, HBR.out.setCell (p := ⟨w1.heap.size, k, none⟩) (Nat.le_refl _) _⟩
     case measure => simp [intOf]; omega
    ·have hbx : b < xn := by have := foll_lt hf; have := HXL.out; omega
     have HN := Lib.hid (ldN_some hbx hf)
     have HF := Lib.hid (follI_some hf)
     have cb := hb.cell (ldN_get (nx := nx) (k := k) hbx)
     have cbf := hb.free b
     have x4 : (0 : Int) ≤ (b : Int) := by omega
     have x5 : (b : Int) < (xn : Int) := by omega
     clear hf
     go_wp2_with (go_at_call 66; refine (HIX.out _ HXr.out).mono ?_; rintro e w4 ⟨rfl, rfl⟩; rw [HF.out])
     go_roundw
     case rel => exact ⟨k + 1, by omega, by go_num, by rw [HS.out, HF.out]; exact (ha.set k ⟨by omega, by omega⟩).other hne, by rw [HN.out]; exact (hb.other hne).set b true, (HBR.out.setCell (p := ⟨w1.heap.size, k, none⟩) (Nat.le_refl _) _).setCell (p := ⟨w2.heap.size, b, none⟩) hge _⟩
     case measure => simp [intOf]; omega
   ·obtain rfl : k = xn := by omega
    have HA := Lib.hid ha
    have HB := Lib.hid hb
    have HBR := Lib.hid hbr
    have hga1 := ha.block.2
    have hgb1 := hb.block.2
    have e8 := (hbr.cell hqw).trans E8.out
    have hqo : w.heap.size < wr.heap.size := Nat.lt_of_lt_of_le hqw hbr.size
    have E8o := Lib.hid e8
    clear ha hb hbr hga hgb hbw hk
    go_wp2_with fail
    clear e8
    obtain ⟨wo, rfl⟩ : ∃ wo : World, wo = wr := ⟨_, rfl⟩
    go_loopw [7, 8, 9, 10, 47] (fun r _ _ _ i wr => ∃ q : Nat, q ≤ k ∧ i = .int .i64 q ∧ OwnB wo.heap.size wr r (lnF nx q) ∧ Below wo.heap.size wo wr) (fun _ _ _ _ i _ => k - (intOf i).toNat)
    case atStart => exact ⟨0, Nat.zero_le _, rfl, OwnB.nil, Below.refl _ _⟩
    case round =>
     obtain ⟨q, hq, rfl, hown, hbq⟩ := hrel
     by_cases hltq : q < k
     ·have cb := (hbq.cell hgb1).trans (HB.out.cell (ldN_get (nx := nx) (k := k) hltq))
      have hfo := foN_get (nx := nx) (S := k) (k := k) hltq
      rw [if_pos hltq] at hfo
      have ca := (hbq.cell hga1).trans (HA.out.cell hfo)
      have HBQ := Lib.hid hbq
      have HOW := Lib.hid hown
      have x1 : (0 : Int) ≤ (q : Int) := by omega
      have x2 : (q : Int) < (k : Int) := by omega
      rcases hled : ledB nx k q with _ | _
      ·have hled2 : ledB nx nx.length q = false := by rw [HXL.out]; exact hled
       have HLN := Lib.hid (lnF_new hled2)
       have hnl : ¬ ledP nx q := fun h => by rw [ledB_iff.2 h] at hled2; cases hled2
       have hqn : q < nx.length := by rw [HXL.out]; exact hltq
       have HNL := Lib.hid hnl
       have HQN := Lib.hid hqn
       rw [hled] at cb
       clear hled hled2 hnl hqn hfo hown hbq
       have ca2 : ∀ o, (wr.alloc o).cell? ⟨w1.heap.size, q, none⟩ = some (.int .i64 (follI nx q)) := fun o => (((Below.refl wr.heap.size wr).alloc (Nat.le_refl _) o).cell (Nat.lt_of_lt_of_le hga1 HBQ.out.size)).trans ca
       have hsq := HBQ.out.size
       have ho0 := Own.one (w := wr) (x := (q : Int)) ⟨by omega, by omega⟩
       have hb0 := (Below.refl wr.heap.size wr).alloc (Nat.le_refl _) (.cells #[.int .i64 (q : Int)] 3)
       have HO0 := Lib.hid ho0
       have HB0 := Lib.hid hb0
       have hst : follI nx q = itI nx q 1 := (itI_succ (k := 0) rfl).symm
       rw [hst] at ca ca2
       clear ho0 hb0 hst
       go_wp2_with fail
       clear ca ca2 cb
       obtain ⟨wi, rfl⟩ : ∃ wi : World, wi = wr := ⟨_, rfl⟩
       go_loopw [9, 10] (fun c z wr => ∃ j x : Nat, z = .int .i64 (itI nx q (j + 1)) ∧ itF nx q j = some x ∧ Own wi.heap.size wr c (preF nx q (j + 1)) ∧ Below wi.heap.size wi wr) (fun c _ _ => k + 1 - lenV c)
       case atStart => exact ⟨0, q, rfl, rfl, HO0.out, HB0.out⟩
       case round =>
        obtain ⟨j, x, rfl, hx, hc, hbi⟩ := hrel
        have hpl := pre_length hx
        rcases hn : itF nx q (j + 1) with _ | y
        ·have HI := Lib.hid (itI_none hn)
         rw [HI.out]
         have hjk : j < nx.length := it_short HQN.out HNL.out hx
         have HLI := Lib.hid (pre_line hn (by omega))
         have HBI := Lib.hid hbi
         obtain ⟨A5, c5, rfl, _, i5⟩ := hc.form
         have F5 := Lib.hid hc.away
         have HVQ := Lib.hid (fun b hb => (HOW.out.lt b hb).2)
         have hll := lnF_length nx q
         have HLL : Hid ((lnF nx q).length ≤ 1000) := by show _ ≤ _; omega
         rw [hpl]
         have HPL := Lib.hid hpl
         have hsi := hbi.size
         clear hn hx hc hbi hll hpl
         go_wp2_with (at_builtin; refine app_band wr rfl _ _ rfl wo.heap.size (HOW.out.grow HBI.out) rfl rfl HPL.out i5 (fun _ a ha => ⟨Nat.le_trans hsq (F5.out a ha), fun e => absurd (HVQ.out a.block e.symm) (Nat.not_lt.2 (F5.out a ha))⟩) HLL.out (Nat.le_trans hsq hsi) ?_; intro v3 w7 ho3 hb7 hg7 hob)
         go_roundw
         case rel => exact ⟨q + 1, by omega, by go_num, by rw [HLN.out, ← HLI.out]; exact ho3, (HBQ.out.trans (HBI.out.mono hsq)).trans hb7⟩
         case measure => simp [intOf]; omega
        ·have HI := Lib.hid (itI_some hn)
         have hj1 : j + 1 < nx.length := it_short HQN.out HNL.out hn
         have hyx : y < nx.length := it_lt HQN.out _ _ hn
         rw [HI.out]
         have HP := Lib.hid (pre_some hn)
         have HXN := Lib.hid hn
         have HII := Lib.hid (itI_succ hn)
         have hyk : y < k := by have := HXL.out; omega
         have hjk : j + 1 < k := by have := HXL.out; omega
         have hfo := foN_get (nx := nx) (S := k) (k := k) hyk
         rw [if_pos hyk] at hfo
         have ca := (HBQ.out.cell hga1).trans (HA.out.cell hfo)
         have HCA := Lib.hid ca
         have hgw := Nat.lt_of_lt_of_le hga1 HBQ.out.size
         have ca := (hbi.cell hgw).trans ca
         have HBI := Lib.hid hbi
         have HPL := Lib.hid hpl
         have hlen : (preF nx q (j + 1)).length < 100000000 := by omega
         have hI : I64 (y : Int) := ⟨by omega, by omega⟩
         have hsi := hbi.size
         have x3 : (0 : Int) ≤ (y : Int) := by omega
         have x4 : (y : Int) < (k : Int) := by omega
         clear hn hx hpl hbi hfo
         go_wp2_with (at_builtin; refine app_int wr rfl _ _ rfl wi.heap.size hc rfl rfl hlen hsi hI ?_; intro v1 w4 hc1 hbel1; have ca := ((HBI.out.trans hbel1).cell hgw).trans HCA.out)
         go_roundw
         case rel => exact ⟨j + 1, y, by rw [HII.out], HXN.out, by rw [HP.out]; exact hc1, HBI.out.trans hbel1⟩
         case measure =>
          obtain ⟨A6, c6, e6, _, _⟩ := hc1.form
          obtain ⟨A7, c7, e7, _, _⟩ := hc.form
          rw [e6, e7]
          simp [lenV]
          have := HPL.out
          omega
      ·have hled2 : ledB nx nx.length q = true := by rw [HXL.out]; exact hled
       have HLN := Lib.hid (lnF_led hled2)
       rw [hled] at cb
       clear hled hled2 hfo ca hbq hown
       go_wp2_with fail
       go_roundw
       case rel => exact ⟨q + 1, by omega, by go_num, by rw [HLN.out]; exact HOW.out, HBQ.out⟩
       case measure => simp [intOf]; omega
     ·obtain rfl : q = k := by omega
      have HBQ := Lib.hid hbq
      have hs1 := HBR.out.size
      clear hbq
      go_wp2
      go_ret2
      obtain ⟨A9, c9, rfl, hi9⟩ := hown.form
      exact ⟨A9, c9, rfl, hi9, HB1.out.trans ((HBR.out.trans (HBQ.out.mono hs1)).mono HB1.out.size)⟩
end Go.Proofs.YtdiflpbioohddaaDoor
end
section
namespace Go.Proofs.YtdiflpbioohddaaDoor
open Go.RowKit
def TermsAt (w : World) (A : Option Addr) (ts : List (Int × Int)) : Prop :=
 ∀ (k : Nat) t, ts[k]? = some t → ∃ ad, A = some ad ∧ ad.block < w.heap.size ∧ w.cell? (ad.add (k * 2)) = some (.int .i64 t.1) ∧ w.cell? ⟨(ad.add (k * 2)).block, (ad.add (k * 2)).off + 1, none⟩ = some (.int .i64 t.2) ∧ I64 t.1 ∧ I64 t.2
def NodesAt (w : World) (A : Option Addr) (ns : List (List (Int × Int))) : Prop :=
 ∀ (k : Nat) ts, ns[k]? = some ts → ∃ ad B c, A = some ad ∧ ad.block < w.heap.size ∧ w.cell? (ad.add k) = some (.slice B ts.length c) ∧ TermsAt w B ts
theorem TermsAt.nil {w : World} {A : Option Addr} : TermsAt w A [] := fun k t h => by simp at h
theorem NodesAt.nil {w : World} {A : Option Addr} : NodesAt w A [] := fun k t h => by simp at h
theorem TermsAt.grow {w w' : World} {A : Option Addr} {ts : List (Int × Int)} (h : TermsAt w A ts) (hb : Below w.heap.size w w') : TermsAt w' A ts := fun k t hk => by
 obtain ⟨ad, e, h1, c0, c1, i1, i2⟩ := h k t hk
 exact ⟨ad, e, Nat.lt_of_lt_of_le h1 hb.size, (hb.cell (by rw [block_add]; exact h1)).trans c0, (hb.cell (by show (ad.add _).block < _; rw [block_add]; exact h1)).trans c1, i1, i2⟩
theorem NodesAt.grow {w w' : World} {A : Option Addr} {ns : List (List (Int × Int))} (h : NodesAt w A ns) (hb : Below w.heap.size w w') : NodesAt w' A ns := fun k ts hk => by
 obtain ⟨ad, B, c, e, h1, c0, ht⟩ := h k ts hk
 exact ⟨ad, B, c, e, Nat.lt_of_lt_of_le h1 hb.size, (hb.cell (by rw [block_add]; exact h1)).trans c0, ht.grow hb⟩
def termB (c0 c1 c2 c3 : Int) (last : Int) (t : Int × Int) : Bool := inB t.1 0 last && (fitsW c0 c1 c2 c3 t.2 || t.2 == (2 : Int) ^ c1.toNat)
def nodeB (c0 c1 c2 c3 : Int) (last : Int) (ts : List (Int × Int)) : Bool := decide (ts.length ≤ 64) && ts.all (termB c0 c1 c2 c3 last)
def nodesB (c0 c1 c2 c3 st : Int) (ns : List (List (Int × Int))) (k : Nat) : Bool := (List.range k).all fun i => match ns[i]? with | some ts => nodeB c0 c1 c2 c3 (st + i) ts | none => true
theorem nodesB_succ {c0 c1 c2 c3 st : Int} {ns : List (List (Int × Int))} {k : Nat} {ts : List (Int × Int)} (h : ns[k]? = some ts) : nodesB c0 c1 c2 c3 st ns (k + 1) = (nodesB c0 c1 c2 c3 st ns k && nodeB c0 c1 c2 c3 (st + k) ts) := by
 unfold nodesB
 rw [List.range_succ, List.all_append]
 simp [h]
theorem nodesB_no {c0 c1 c2 c3 st : Int} {ns : List (List (Int × Int))} {k : Nat} {ts : List (Int × Int)} (h : ns[k]? = some ts) (hn : nodeB c0 c1 c2 c3 (st + k) ts = false) : nodesB c0 c1 c2 c3 st ns ns.length = false := by
 have hk := (List.getElem?_eq_some_iff.1 h).1
 unfold nodesB
 rw [List.all_eq_false]
 exact ⟨k, List.mem_range.2 hk, by rw [h]; simp [hn]⟩
def netHeadB (d0 d1 d2 d3 c0 c1 c2 c3 st : Int) (nn xn : Nat) : Bool := okW d0 d1 d2 d3 && (okW c0 c1 c2 c3 && (inB st 0 64 && (decide (nn ≤ 64) && ((xn : Int) == st))))
def netB (d0 d1 d2 d3 c0 c1 c2 c3 st : Int) (ns : List (List (Int × Int))) (nx : List Int) (out : Int) : Bool :=
 netHeadB d0 d1 d2 d3 c0 c1 c2 c3 st ns.length nx.length && (nodesB c0 c1 c2 c3 st ns ns.length && ((nx.all fun v => inB v 0 (st + ns.length)) && inB out 0 (st + ns.length)))
end Go.Proofs.YtdiflpbioohddaaDoor
end
section
namespace Go.Proofs.YtdiflpbioohddaaDoor
open Go.RowKit
theorem below_net {w w' : World} {o : Obj} (h : Below (w.alloc o).heap.size (w.alloc o) w') : Below (w.heap.size + 1) (w.alloc o) w' := h.mono (by simp)
theorem below_net3 {w w1 w2 : World} {o : Obj} (hb : Below (w.heap.size + 1) (w.alloc o) w1) (hb1 : Below w1.heap.size w1 w2) : Below (w.heap.size + 1) (w.alloc o) w2 := hb.trans (hb1.mono (by have := hb.size; simpa using this))
theorem below_net2 {w w' : World} {o : Obj} (h : Below (w.heap.size + 1) (w.alloc o) w') : Below w.heap.size w w' := ((Below.refl _ _).alloc (Nat.le_refl _) o).trans (h.mono (by omega))
structure NetP (w : World) (P : World → Prop) (d0 d1 d2 d3 c0 c1 c2 c3 st : Int) (NA : Option Addr) (ns : List (List (Int × Int))) (nn nc : Nat) (XA : Option Addr) (nx : List Int) (xn xc : Nat) (out : Int) : Prop where
 go : ∀ w1 w2, P w1 → Below w1.heap.size w1 w2 → P w2
 al : ∀ w1 o, P w1 → P (w1.alloc o)
 old : ∀ w1, P w1 → Below w.heap.size w w1
 cells : ∀ w1, P w1 → w1.cell? ⟨w.heap.size, 4, none⟩ = some (.int .i64 c0) ∧ w1.cell? ⟨w.heap.size, 5, none⟩ = some (.int .i64 c1) ∧ w1.cell? ⟨w.heap.size, 6, none⟩ = some (.int .i64 c2) ∧ w1.cell? ⟨w.heap.size, 7, none⟩ = some (.int .i64 c3) ∧
   w1.cell? ⟨w.heap.size, 8, none⟩ = some (.int .i64 st) ∧ w1.cell? ⟨w.heap.size, 9, none⟩ = some (.slice NA nn nc) ∧ w1.cell? ⟨w.heap.size, 10, none⟩ = some (.slice XA xn xc) ∧ w1.cell? ⟨w.heap.size, 11, none⟩ = some (.int .i64 out)
 nodes : ∀ w1, P w1 → NodesAt w1 NA ns
 next : ∀ w1, P w1 → Ints w1 XA nx
 lt : ∀ w1, P w1 → w.heap.size < w1.heap.size
theorem netP_mk {w : World} {d0 d1 d2 d3 c0 c1 c2 c3 st : Int} {NA : Option Addr} {ns : List (List (Int × Int))} {nn nc : Nat} {XA : Option Addr} {nx : List Int} {xn xc : Nat} {out : Int} (hN : NodesAt w NA ns) (hX : Ints w XA nx) :
  NetP w (Below (w.heap.size + 1) (w.alloc (.cells #[.int .i64 d0, .int .i64 d1, .int .i64 d2, .int .i64 d3, .int .i64 c0, .int .i64 c1, .int .i64 c2, .int .i64 c3, .int .i64 st, .slice NA nn nc, .slice XA xn xc, .int .i64 out] 27))) d0 d1 d2 d3 c0 c1 c2 c3 st NA ns nn nc XA nx xn xc out where
 go := fun w1 w2 h1 h2 => below_net3 h1 h2
 al := fun w1 o h1 => h1.alloc (by have := h1.size; simpa using this) o
 old := fun w1 h1 => below_net2 h1
 cells := fun w' h =>
  ⟨(h.cell (Nat.lt_succ_self _)).trans (by simp [go_sem]), (h.cell (Nat.lt_succ_self _)).trans (by simp [go_sem]), (h.cell (Nat.lt_succ_self _)).trans (by simp [go_sem]), (h.cell (Nat.lt_succ_self _)).trans (by simp [go_sem]), (h.cell (Nat.lt_succ_self _)).trans (by simp [go_sem]), (h.cell (Nat.lt_succ_self _)).trans (by simp [go_sem]), (h.cell (Nat.lt_succ_self _)).trans (by simp [go_sem]), (h.cell (Nat.lt_succ_self _)).trans (by simp [go_sem])⟩
 nodes := fun w1 h1 => hN.grow (below_net2 h1)
 next := fun w1 h1 => hX.grow (below_net2 h1)
 lt := fun w1 h1 => by have := h1.size; simp at this; omega
theorem netB_nodes {d0 d1 d2 d3 c0 c1 c2 c3 st out : Int} {ns : List (List (Int × Int))} {nx : List Int} (h : nodesB c0 c1 c2 c3 st ns ns.length = false) : netB d0 d1 d2 d3 c0 c1 c2 c3 st ns nx out = false := by
 unfold netB; rw [h]; simp
theorem nodeB_terms {c0 c1 c2 c3 last : Int} {ts : List (Int × Int)} (h : ts.all (termB c0 c1 c2 c3 last) = false) : nodeB c0 c1 c2 c3 last ts = false := by unfold nodeB; rw [h]; simp
theorem nodeB_long {c0 c1 c2 c3 last : Int} {ts : List (Int × Int)} (h : ¬ ts.length ≤ 64) : nodeB c0 c1 c2 c3 last ts = false := by unfold nodeB; rw [decide_eq_false h]; simp
theorem netB_next {d0 d1 d2 d3 c0 c1 c2 c3 st out : Int} {ns : List (List (Int × Int))} {nx : List Int} (h : (nx.all fun v => inB v 0 (st + ns.length)) = false) : netB d0 d1 d2 d3 c0 c1 c2 c3 st ns nx out = false := by
 unfold netB; rw [h]; simp
theorem netB_end {d0 d1 d2 d3 c0 c1 c2 c3 st out : Int} {ns : List (List (Int × Int))} {nx : List Int} (h1 : netHeadB d0 d1 d2 d3 c0 c1 c2 c3 st ns.length nx.length = true) (h2 : nodesB c0 c1 c2 c3 st ns ns.length = true) (h3 : (nx.all fun v => inB v 0 (st + ns.length)) = true) : netB d0 d1 d2 d3 c0 c1 c2 c3 st ns nx out = inB out 0 (st + ns.length) := by
 unfold netB; rw [h1, h2, h3]; simp
theorem termB_eq {c0 c1 c2 c3 last Q f v : Int} (hQ : (2 : Int) ^ c1.toNat = Q) : termB c0 c1 c2 c3 last (f, v) = (inB f 0 last && (fitsW c0 c1 c2 c3 v || v == Q)) := by unfold termB; rw [hQ]
theorem netB_head {d0 d1 d2 d3 c0 c1 c2 c3 st out : Int} {ns : List (List (Int × Int))} {nx : List Int} (h : netHeadB d0 d1 d2 d3 c0 c1 c2 c3 st ns.length nx.length = false) : netB d0 d1 d2 d3 c0 c1 c2 c3 st ns nx out = false := by
 unfold netB; rw [h]; rfl
end Go.Proofs.YtdiflpbioohddaaDoor
end
