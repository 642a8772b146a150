/- The walk of the law CodegenChains. -/
import Derived.Test.YtinjjaahljkhdaaH3
import Derived.Test.YtinjjaahljkhdaaH4
namespace Go.Proofs.Ytinjjaahljkhdaa
open Go.RowKit

/-- The two arguments, laid. -/
structure LawP (w : World) (P : World → Prop) (nv rv : List Value) : Prop where
  go : ∀ w1 w2, P w1 → Below w1.heap.size w1 w2 → P w2
  old : ∀ w1, P w1 → Below w.heap.size w w1
  net : ∀ w1, P w1 → Box w1 w.heap.size nv
  raw : ∀ w1, P w1 → Box w1 (w.heap.size + 1) rv
theorem lawP_mk {w : World} {nv rv : Array Value} {t u : TypeId} : LawP w (Below (w.heap.size + 2) ((w.alloc (.cells nv t)).alloc (.cells rv u))) nv.toList rv.toList := by
  have hs : ∀ w1, Below (w.heap.size + 2) ((w.alloc (.cells nv t)).alloc (.cells rv u)) w1 → w.heap.size + 2 ≤ w1.heap.size := fun w1 h => by have := h.size; simp at this; omega
  refine ⟨fun w1 w2 h h2 => h.trans (h2.mono (hs w1 h)), fun w1 h => (((Below.refl w.heap.size w).alloc (Nat.le_refl _) _).alloc (by simp) _).trans (h.mono (by omega)), fun w1 h => ?_, fun w1 h => ?_⟩
  · exact ((Box.new rfl).alloc _).block (h.block _ (by omega)) h.size
  · exact (Box.new (w := w.alloc (.cells nv t)) (by simp)).block (h.block _ (by omega)) h.size
theorem Box.c7 {w : World} {g : Nat} {a b c d i j k : Value} (h : Box w g [a, b, c, d, i, j, k]) : w.cell? ⟨g, 0, none⟩ = some a ∧ w.cell? ⟨g, 1, none⟩ = some b ∧ w.cell? ⟨g, 2, none⟩ = some c ∧ w.cell? ⟨g, 3, none⟩ = some d ∧ w.cell? ⟨g, 4, none⟩ = some i ∧ w.cell? ⟨g, 5, none⟩ = some j ∧ w.cell? ⟨g, 6, none⟩ = some k :=
  ⟨h.2.1 0, h.2.1 1, h.2.1 2, h.2.1 3, h.2.1 4, h.2.1 5, h.2.1 6⟩
set_option maxRecDepth 100000 in
set_option maxHeartbeats 4000000 in
theorem law_CodegenChains (d0 d1 d2 d3 c0 c1 c2 c3 st out : Int) (NA XA : Option Addr) (nn nc xn xc : Nat) (ns : List (List (Int × Int))) (nx : List Int)
    (dn cn sn out' : Int) (wh : Bool) (WA XA' : Option Addr) (wn wc xn' xc' : Nat) (ws : List (List Int × List Int)) (nx' : List Int) (w : World)
    (hN : NetOk w NA ns XA nx st) (hnn : ns.length = nn) (hxn : nx.length = xn) (hW : WiresAt w WA ws) (hX : Ints w XA' nx') (hwn : ws.length = wn) (hxn' : nx'.length = xn') (h1 : wn ≤ 9223372036854775807) (h2 : xn' ≤ 9223372036854775807) :
    Calls Try.prog 3 #[netV d0 d1 d2 d3 c0 c1 c2 c3 st NA nn nc XA xn xc out, rawV dn cn sn WA wn wc XA' xn' xc' out' wh] w (BoolBw w true) := by
  have h3 : nn ≤ 9223372036854775807 := by rw [← hnn]; exact hN.n1
  have h4 : xn ≤ 9223372036854775807 := by rw [← hxn]; exact hN.n2
  have QC : Hid (∀ w, NetOk w NA ns XA nx st → Calls Try.prog 5 #[netV d0 d1 d2 d3 c0 c1 c2 c3 st NA nn nc XA xn xc out] w (BoolBw w true)) := fun w h => l41_chains d0 d1 d2 d3 c0 c1 c2 c3 st out NA XA nn nc xn xc ns nx w h hnn hxn
  have QN : Hid (∀ w, WiresAt w WA ws → Ints w XA' nx' → Calls Try.prog 6 #[rawV dn cn sn WA wn wc XA' xn' xc' out' wh] w (RetRaw w dn cn)) := fun w ha hb => raw_Net dn cn sn out' wh WA XA' wn wc xn' xc' ws nx' w ha hb hwn hxn' h1 h2
  have hP : ∃ P : World → Prop, P ((w.alloc (.cells #[.int .i64 d0, .int .i64 d1, .int .i64 d2, .int .i64 d3, .int .i64 c0, .int .i64 c1, .int .i64 c2, .int .i64 c3, .int .i64 st, .slice NA nn nc, .slice XA xn xc, .int .i64 out] 27)).alloc (.cells #[.int .i64 dn, .int .i64 cn, .int .i64 sn, .slice WA wn wc, .slice XA' xn' xc', .int .i64 out', .bool wh] 30)) ∧ LawP w P [.int .i64 d0, .int .i64 d1, .int .i64 d2, .int .i64 d3, .int .i64 c0, .int .i64 c1, .int .i64 c2, .int .i64 c3, .int .i64 st, .slice NA nn nc, .slice XA xn xc, .int .i64 out] [.int .i64 dn, .int .i64 cn, .int .i64 sn, .slice WA wn wc, .slice XA' xn' xc', .int .i64 out', .bool wh] := ⟨_, Below.refl _ _, lawP_mk⟩
  obtain ⟨P, HP0, PL0⟩ := hP
  have HP := Lib.hid HP0
  have PL := Lib.hid PL0
  have HN := Lib.hid hN
  have HW := Lib.hid hW
  have HX := Lib.hid hX
  have HNN := Lib.hid hnn
  clear HP0 PL0 hN hW hX hnn hxn hwn hxn' h1 h2
  obtain ⟨⟨z1, z2, z3, z4⟩, ⟨z5, z6, z7, z8⟩, z9, z10, z11, z12⟩ := (PL.out.net _ HP.out).c12
  clear z1 z2 z3 z4 z5 z6 z7 z8 z9 z12
  unfold netV rawV
  by_cases hbig : 70 < nn
  · have hb1 : (70 : Int) < (nn : Int) := by omega
    clear hbig
    go_enter Try.func3, Try.ntmps3
    go_wp2_with fail
    refine (known41 _).mono ?_
    rintro e w1 ⟨rfl, hb1⟩
    have hb := (PL.out.old _ HP.out).trans (hb1.mono (PL.out.old _ HP.out).size)
    go_wp2_with fail
    go_ret
    exact ⟨rfl, hb⟩
  · have hb2 : (nn : Int) ≤ (70 : Int) := by omega
    clear hbig
    by_cases hbig : 70 < xn
    · have hb3 : (70 : Int) < (xn : Int) := by omega
      clear hbig
      go_enter Try.func3, Try.ntmps3
      go_wp2_with fail
      refine (known41 _).mono ?_
      rintro e w1 ⟨rfl, hb1⟩
      have hb := (PL.out.old _ HP.out).trans (hb1.mono (PL.out.old _ HP.out).size)
      go_wp2_with fail
      go_ret
      exact ⟨rfl, hb⟩
    · have hb3 : (xn : Int) ≤ (70 : Int) := by omega
      clear hbig
      go_enter Try.func3, Try.ntmps3
      go_wp2_with fail
      all_goals try (exfalso; omega)
      clear z10 z11
      generalize (w.alloc (.cells #[.int .i64 d0, .int .i64 d1, .int .i64 d2, .int .i64 d3, .int .i64 c0, .int .i64 c1, .int .i64 c2, .int .i64 c3, .int .i64 st, .slice NA nn nc, .slice XA xn xc, .int .i64 out] 27)).alloc (.cells #[.int .i64 dn, .int .i64 cn, .int .i64 sn, .slice WA wn wc, .slice XA' xn' xc', .int .i64 out', .bool wh] 30) = W2 at HP ⊢
      go_loopw [5] (fun i wr => ∃ q : Nat, q ≤ nn ∧ i = .int .i64 q ∧ wr = W2) (fun i _ => nn - (intOf i).toNat)
      case atStart => exact ⟨0, Nat.zero_le _, rfl, rfl⟩
      case round =>
        obtain ⟨q, hq, rfl, rfl⟩ := hrel
        obtain ⟨⟨z1, z2, z3, z4⟩, ⟨z5, z6, z7, z8⟩, z9, z10, z11, z12⟩ := (PL.out.net _ HP.out).c12
        clear z1 z2 z3 z4 z5 z6 z7 z8 z9 z12
        have x1 : (0 : Int) ≤ (q : Int) := by omega
        by_cases hlt2 : q < nn
        · have x2 : (q : Int) < (nn : Int) := by omega
          obtain ⟨ts, hts⟩ : ∃ ts, ns[q]? = some ts := ⟨_, List.getElem?_eq_getElem (by rw [HNN.out]; exact hlt2)⟩
          obtain ⟨ad, B, c, rfl, hbk, hck, _⟩ := HN.out.nodes q ts hts
          have hbo := (PL.out.old _ HP.out)
          have hck := (hbo.cell (p := ad.add q) (by rw [block_add]; exact hbk)).trans hck
          obtain ⟨tn, htn⟩ : ∃ a, ts.length = a := ⟨_, rfl⟩
          rw [htn] at hck
          have t1 : tn ≤ 9223372036854775807 := by rw [← htn]; exact HN.out.n3 ts (List.mem_of_getElem? hts)
          have hbA : (ad.add q).block < wr.heap.size := by rw [block_add]; exact Nat.lt_of_lt_of_le hbk hbo.size
          clear hts htn hbk hbo
          go_wp2_with fail
          · refine (known41 _).mono ?_
            rintro e w1 ⟨rfl, hb1⟩
            have hb := (PL.out.old _ HP.out).trans (hb1.mono (PL.out.old _ HP.out).size)
            go_wp2_with fail
            go_ret
            exact ⟨rfl, hb⟩
          · go_roundw
            case rel => exact ⟨q + 1, by omega, by go_num, trivial⟩
            case measure => simp [intOf]; omega
        · have x2 : (nn : Int) ≤ (q : Int) := by omega
          go_wp2_with fail
          clear z10 z11
          refine (known41 _).mono ?_
          rintro e w1 ⟨rfl, hb1⟩
          have hp1 := PL.out.go _ _ HP.out hb1
          clear hb1 HP
          obtain ⟨⟨z1, z2, z3, z4⟩, ⟨z5, z6, z7, z8⟩, z9, z10, z11, z12⟩ := (PL.out.net _ hp1).c12
          have HP := Lib.hid hp1
          clear hp1
          go_wp2_with fail
          clear z1 z2 z3 z4 z5 z6 z7 z8 z9 z10 z11 z12
          refine (QC.out _ (HN.out.grow (PL.out.old _ HP.out))).mono ?_
          rintro e w2 ⟨rfl, hb1⟩
          have hp1 := PL.out.go _ _ HP.out hb1
          clear hb1 HP
          obtain ⟨z1, z2, z3, z4, z5, z6, z7⟩ := (PL.out.raw _ hp1).c7
          have HP := Lib.hid hp1
          clear hp1
          go_wp2_with fail
          clear z1 z2 z3 z4 z5 z6 z7
          refine (QN.out _ (HW.out.grow (PL.out.old _ HP.out)) (HX.out.grow (PL.out.old _ HP.out))).mono ?_
          rintro e w3 ⟨e0, e1, e2, e3, g0, g1, g2, g3, rs, rns, rnx, rout, RA, rnc, RX, rxc, rfl, _, _, i1, i2, hb1, hvr, _, hn4, ht4⟩
          have hu := netB_use hvr
          have i3 : I64 rs := by
            have e := hu.1
            have := hu.2.2
            show _ ∧ _
            omega
          have hok : NetOk w3 RA rns RX rnx rs := ⟨i1, i2, by omega, by have := hu.2.2; omega, fun ts h => by have := ht4 ts h; omega, i3⟩
          have hp1 := PL.out.go _ _ HP.out hb1
          have HP := Lib.hid hp1
          have HOK := Lib.hid hok
          clear hp1 hb1 hvr hn4 ht4 hu i1 i2 i3 hok
          go_wp2_with fail
          refine (l41_chains e0 e1 e2 e3 g0 g1 g2 g3 rs rout RA RX _ rnc _ rxc rns rnx _ HOK.out rfl rfl).mono ?_
          rintro e w4 ⟨rfl, hb1⟩
          have hb := (PL.out.old _ HP.out).trans (hb1.mono (PL.out.old _ HP.out).size)
          clear hb1
          go_wp2_with fail
          go_ret
          exact ⟨rfl, hb⟩
end Go.Proofs.Ytinjjaahljkhdaa
