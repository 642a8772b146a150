/- Several texts in one: E8 E10. -/
import Derived.Test.YtdiflpbioohddaaDoortT3toE7
set_option linter.unusedVariables false
set_option linter.unusedSimpArgs false
section
namespace Go.Proofs.YtdiflpbioohddaaDoor
open Go.RowKit
theorem rd_len (i : Ins) : i.rd.length ≤ 2 := by unfold Ins.rd; split <;> (try split) <;> simp
theorem wt_len (i : Ins) : i.wt.length ≤ 1 := by unfold Ins.wt; split <;> (try split) <;> simp
abbrev useV (B : Option Addr) (n c : Nat) (C : Option Addr) (m d : Nat) : Value := .agg #[.slice B n c, .slice C m d]
set_option maxRecDepth 100000 in
theorem sc_touches (s : Bool) (v : Int) (B C : Option Addr) (r t : List Int) (n c m d g : Nat) (w : World) (hg : g < w.heap.size) (hs : w.cell? ⟨g, 0, none⟩ = some (.bool s)) (hr : Ints w B r) (ht : Ints w C t) (hn : r.length = n) (hm : t.length = m) (hn9 : n ≤ 1000) (hm9 : m ≤ 1000) :
  Calls Tryd.prog 115 #[.int .i64 v, useV B n c C m d, .pointer (some ⟨g, 0, none⟩)] w fun e w' => e = .returned (.bool (touchF s v r t)) ∧ Below w.heap.size w w' := by
 have C1 : Hid (∀ w1, Below w.heap.size w w1 → Calls Tryd.prog 116 #[.slice B n c, .int .i64 v] w1 fun e w' => e = .returned (.bool (r.contains v)) ∧ w1 = w') := fun w1 hb => sl_Contains B r c n v w1 hn (by omega) (hr.grow hb)
 have C2 : Hid (∀ w1, Below w.heap.size w w1 → Calls Tryd.prog 116 #[.slice C m d, .int .i64 v] w1 fun e w' => e = .returned (.bool (t.contains v)) ∧ w1 = w') := fun w1 hb => sl_Contains C t d m v w1 hm (by omega) (ht.grow hb)
 have HS := Lib.hid hs
 have hb0 : Hid (Below w.heap.size w (w.alloc (.cells #[.slice B n c, .slice C m d] 144))) := (Below.refl _ _).alloc (Nat.le_refl _) _
 obtain ⟨x, hx⟩ : ∃ x, r.contains v = x := ⟨_, rfl⟩
 obtain ⟨y, hy⟩ : ∃ x, t.contains v = x := ⟨_, rfl⟩
 have hs1 : (w.alloc (.cells #[.slice B n c, .slice C m d] 144)).cell? ⟨g, 0, none⟩ = some (.bool s) := (hb0.out.cell (p := ⟨g, 0, none⟩) hg).trans hs
 unfold touchF
 rw [hx, hy]
 rw [hx] at C1
 rw [hy] at C2
 clear hr ht hx hy hs HS
 cases s with
 | true =>
  by_cases e : v = 8
  ·subst e
   show Calls Tryd.prog 115 #[.int .i64 8, useV B n c C m d, .pointer (some ⟨g, 0, none⟩)] w fun e w' => e = .returned (.bool false) ∧ Below w.heap.size w w'
   go_enter Tryd.func115, Tryd.ntmps115
   go_wp2_with fail
   go_ret
   exact ⟨rfl, hb0.out⟩
  ·have e8 : (v == 8) = false := by simpa using e
   have d8 : decide (v = 8) = false := decide_eq_false e
   rw [e8]
   show Calls Tryd.prog 115 #[.int .i64 v, useV B n c C m d, .pointer (some ⟨g, 0, none⟩)] w fun e w' => e = .returned (.bool (x || y)) ∧ Below w.heap.size w w'
   cases x with
   | true =>
    go_enter Tryd.func115, Tryd.ntmps115
    go_wp2_with (go_at_call 116; first | ((with_reducible refine (C1.out _ hb0.out).mono ?_); rintro e1 w1 ⟨rfl, rfl⟩) | ((with_reducible refine (C2.out _ hb0.out).mono ?_); rintro e1 w1 ⟨rfl, rfl⟩))
    go_ret
    exact ⟨rfl, hb0.out⟩
   | false =>
    go_enter Tryd.func115, Tryd.ntmps115
    go_wp2_with (go_at_call 116; first | ((with_reducible refine (C1.out _ hb0.out).mono ?_); rintro e1 w1 ⟨rfl, rfl⟩) | ((with_reducible refine (C2.out _ hb0.out).mono ?_); rintro e1 w1 ⟨rfl, rfl⟩))
    go_ret
    exact ⟨rfl, hb0.out⟩
 | false =>
  show Calls Tryd.prog 115 #[.int .i64 v, useV B n c C m d, .pointer (some ⟨g, 0, none⟩)] w fun e w' => e = .returned (.bool (x || y)) ∧ Below w.heap.size w w'
  cases x with
  | true =>
   go_enter Tryd.func115, Tryd.ntmps115
   go_wp2_with (go_at_call 116; first | ((with_reducible refine (C1.out _ hb0.out).mono ?_); rintro e1 w1 ⟨rfl, rfl⟩) | ((with_reducible refine (C2.out _ hb0.out).mono ?_); rintro e1 w1 ⟨rfl, rfl⟩))
   go_ret
   exact ⟨rfl, hb0.out⟩
  | false =>
   go_enter Tryd.func115, Tryd.ntmps115
   go_wp2_with (go_at_call 116; first | ((with_reducible refine (C1.out _ hb0.out).mono ?_); rintro e1 w1 ⟨rfl, rfl⟩) | ((with_reducible refine (C2.out _ hb0.out).mono ?_); rintro e1 w1 ⟨rfl, rfl⟩))
   go_ret
   exact ⟨rfl, hb0.out⟩
theorem size_bool : (Tryd.prog.info? 4).map (·.size) = some 1 := by kernel_rfl
theorem entryD (w : World) (i j : Ins) (B : Option Addr) (a b : Nat) (C : Option Addr) (c d : Nat) (B' : Option Addr) (a' b' : Nat) (C' : Option Addr) (c' d' : Nat) : ∀ W, W = ((((w.alloc (.cells i.cells.toArray 109)).alloc (.cells j.cells.toArray 109)).alloc (.cells #[.slice B a b, .slice C c d] 144)).alloc (.cells #[.slice B' a' b', .slice C' c' d'] 144)) →
  Box W w.heap.size i.cells ∧ Box W (w.heap.size + 1) j.cells ∧ Box W (w.heap.size + 1 + 1) [.slice B a b, .slice C c d] ∧ Box W (w.heap.size + 1 + 1 + 1) [.slice B' a' b', .slice C' c' d'] ∧ Below w.heap.size w W := fun W hW => by
 subst hW
 exact ⟨Box.alloc (Box.alloc (Box.alloc (Box.new rfl) _) _) _, Box.alloc (Box.alloc (Box.new (by simp)) _) _, Box.alloc (Box.new (by simp)) _, Box.new (by simp), ((((Below.refl w.heap.size w).alloc (Nat.le_refl _) _).alloc (by simp) _).alloc (by simp; omega) _).alloc (by simp; omega) _⟩
set_option maxRecDepth 100000 in
set_option maxHeartbeats 4000000 in
theorem sc_depends (i j : Ins) (B C B' C' : Option Addr) (ai bi' ci di a' b' c' d' : Nat) (w : World) (hr : Ints w B i.rd) (ht : Ints w C i.wt) (hr' : Ints w B' j.rd) (ht' : Ints w C' j.wt) (h1 : i.rd.length = ai) (h2 : i.wt.length = ci) (h3 : j.rd.length = a') (h4 : j.wt.length = c') :
  Calls Tryd.prog 108 #[i.v, j.v, useV B ai bi' C ci di, useV B' a' b' C' c' d'] w fun e w' => e = .returned (.bool (depF i j)) ∧ Below w.heap.size w w' := by
 have k1 := rd_len i
 have k2 := wt_len i
 have k3 := rd_len j
 have k4 := wt_len j
 rw [h1] at k1
 rw [h2] at k2
 rw [h3] at k3
 rw [h4] at k4
 have HR := Lib.hid hr
 have HT := Lib.hid ht
 have HR' := Lib.hid hr'
 have HT' := Lib.hid ht'
 have H1 := Lib.hid h1
 have H2 := Lib.hid h2
 have H3 := Lib.hid h3
 have H4 := Lib.hid h4
 clear hr ht hr' ht' h1 h2 h3 h4
 unfold depF
 by_cases hi : i.op = 0
 ·have hd : (i.op == 0) = true := by simpa using hi
  have hd2 : decide (i.op = 0) = true := decide_eq_true hi
  rw [hd]
  have HI0 := Lib.hid hi
  clear hi hd hd2
  show Calls Tryd.prog 108 #[i.v, j.v, useV B ai bi' C ci di, useV B' a' b' C' c' d'] w fun e w' => e = .returned (.bool true) ∧ Below w.heap.size w w'
  go_enter Tryd.func108, Tryd.ntmps108
  go_upto_region 1 with fail
  obtain ⟨bi, bj, ba, bb, hb0⟩ := entryD w i j B ai bi' C ci di B' a' b' C' c' d' _ rfl
  change Code.wp _ _ _ _ ((((w.alloc (.cells i.cells.toArray 109)).alloc (.cells j.cells.toArray 109)).alloc (.cells #[.slice B ai bi', .slice C ci di] 144)).alloc (.cells #[.slice B' a' b', .slice C' c' d'] 144))
  generalize ((((w.alloc (.cells i.cells.toArray 109)).alloc (.cells j.cells.toArray 109)).alloc (.cells #[.slice B ai bi', .slice C ci di] 144)).alloc (.cells #[.slice B' a' b', .slice C' c' d'] 144)) = W0 at bi bj ba bb hb0 ⊢
  obtain ⟨y0, -, -, -⟩ := bi.c4
  obtain ⟨z0, -, -, -⟩ := bj.c4
  obtain ⟨a0, a1⟩ := ba.c2
  obtain ⟨b0, b1⟩ := bb.c2
  rw [HI0.out] at y0
  go_wp2_with fail
  go_ret
  exact ⟨rfl, hb0⟩
 have hd : (i.op == 0) = false := by simpa using hi
 have hdd : decide (i.op = 0) = false := decide_eq_false hi
 by_cases hj : j.op = 0
 ·have hd' : (j.op == 0) = true := by simpa using hj
  rw [hd, hd']
  have HJ0 := Lib.hid hj
  have HDI := Lib.hid hdd
  have HDE := Lib.hid hd
  clear hj hd' hd hdd hi
  show Calls Tryd.prog 108 #[i.v, j.v, useV B ai bi' C ci di, useV B' a' b' C' c' d'] w fun e w' => e = .returned (.bool true) ∧ Below w.heap.size w w'
  go_enter Tryd.func108, Tryd.ntmps108
  go_upto_region 1 with fail
  obtain ⟨bi, bj, ba, bb, hb0⟩ := entryD w i j B ai bi' C ci di B' a' b' C' c' d' _ rfl
  change Code.wp _ _ _ _ ((((w.alloc (.cells i.cells.toArray 109)).alloc (.cells j.cells.toArray 109)).alloc (.cells #[.slice B ai bi', .slice C ci di] 144)).alloc (.cells #[.slice B' a' b', .slice C' c' d'] 144))
  generalize ((((w.alloc (.cells i.cells.toArray 109)).alloc (.cells j.cells.toArray 109)).alloc (.cells #[.slice B ai bi', .slice C ci di] 144)).alloc (.cells #[.slice B' a' b', .slice C' c' d'] 144)) = W0 at bi bj ba bb hb0 ⊢
  obtain ⟨y0, -, -, -⟩ := bi.c4
  obtain ⟨z0, -, -, -⟩ := bj.c4
  obtain ⟨a0, a1⟩ := ba.c2
  obtain ⟨b0, b1⟩ := bb.c2
  rw [HJ0.out] at z0
  have hdd := HDI.out
  have hde := HDE.out
  go_wp2_with fail
  go_ret
  exact ⟨rfl, hb0⟩
 have hd' : (j.op == 0) = false := by simpa using hj
 have hdd' : decide (j.op = 0) = false := decide_eq_false hj
 rw [hd, hd']
 obtain ⟨s, hs⟩ : ∃ s, (sumOp i.op && sumOp j.op) = s := ⟨_, rfl⟩
 rw [hs]
 obtain ⟨R, hR⟩ : ∃ R, (i.wt.any (fun v => touchF s v j.rd j.wt) || j.wt.any (fun v => touchF s v i.rd i.wt)) = R := ⟨_, rfl⟩
 have HRR := Lib.hid hR
 rw [hR]
 show Calls Tryd.prog 108 #[i.v, j.v, useV B ai bi' C ci di, useV B' a' b' C' c' d'] w fun e w' => e = .returned (.bool R) ∧ Below w.heap.size w w'
 clear hR
 have CP : Hid (∀ op w1, Calls Tryd.prog 114 #[.int .i64 op] w1 fun e w' => e = .returned (.bool (sumOp op)) ∧ w1 = w') := fun op w1 => sc_product op w1
 go_enter Tryd.func108, Tryd.ntmps108
 go_upto_region 1 with fail
 obtain ⟨bi, bj, ba, bb, hb0⟩ := entryD w i j B ai bi' C ci di B' a' b' C' c' d' _ rfl
 change Code.wp _ _ _ _ ((((w.alloc (.cells i.cells.toArray 109)).alloc (.cells j.cells.toArray 109)).alloc (.cells #[.slice B ai bi', .slice C ci di] 144)).alloc (.cells #[.slice B' a' b', .slice C' c' d'] 144))
 generalize ((((w.alloc (.cells i.cells.toArray 109)).alloc (.cells j.cells.toArray 109)).alloc (.cells #[.slice B ai bi', .slice C ci di] 144)).alloc (.cells #[.slice B' a' b', .slice C' c' d'] 144)) = W0 at bi bj ba bb hb0 ⊢
 obtain ⟨y0, -, -, -⟩ := bi.c4
 obtain ⟨z0, -, -, -⟩ := bj.c4
 obtain ⟨a0, a1⟩ := ba.c2
 obtain ⟨b0, b1⟩ := bb.c2
 have HB0 := Lib.hid hb0
 have BI := Lib.hid bi
 have BJ := Lib.hid bj
 have BA := Lib.hid ba
 have BB := Lib.hid bb
 have hmf : ∀ (fn : Fn) (first cap : Array Value) (w : World), (Instr.makeFunc fn first cap).run Tryd.prog w = .ok (.func fn first cap) w := fun _ _ _ _ => rfl
 go_upto_region 3 with fail
 clear hd hdd hd' hdd' hi hj
 obtain ⟨si, hsi⟩ : ∃ x, sumOp i.op = x := ⟨_, rfl⟩
 obtain ⟨sj, hsj⟩ : ∃ x, sumOp j.op = x := ⟨_, rfl⟩
 have C1 : Hid (∀ w1, Calls Tryd.prog 114 #[.int .i64 i.op] w1 fun e w' => e = .returned (.bool si) ∧ w1 = w') := fun w1 => by have := CP.out i.op w1; rw [hsi] at this; exact this
 have C2 : Hid (∀ w1, Calls Tryd.prog 114 #[.int .i64 j.op] w1 fun e w' => e = .returned (.bool sj) ∧ w1 = w') := fun w1 => by have := CP.out j.op w1; rw [hsj] at this; exact this
 rw [hsi, hsj] at hs
 clear hsi hsj CP
 cases si with
 | false =>
  have hs : s = false := hs.symm
  subst hs
  go_upto_region 5 with (first
   | (go_at_call 114; first | ((with_reducible refine (C1.out _).mono ?_); rintro e1 w1 ⟨rfl, rfl⟩) | ((with_reducible refine (C2.out _).mono ?_); rintro e1 w1 ⟨rfl, rfl⟩))
   | ((with_reducible show wpList _ _ _ (Oper.mk _ (.store _ _ _) _ _ _ _ :: _) _ _); refine wp_st1 (w := W0.alloc (.cells #[.bool false] 4)) (vs := [.bool false]) (vs' := [.bool false]) rfl _ _ _ rfl W0.heap.size 0 (.bool false) rfl rfl size_bool rfl rfl (Box.new rfl) (by simp) rfl ?_; intro W1 b1 p1))
  have hb1 := put_facts ((Below.refl W0.heap.size W0).alloc (Nat.le_refl _) (.cells #[.bool false] 4)) (Nat.le_refl _) p1
  have HW1 := Lib.hid (below_then HB0.out hb1)
  have BA1 := Lib.hid (Box.keep BA.out hb1)
  have BB1 := Lib.hid (Box.keep BB.out hb1)
  have B1 := Lib.hid b1
  generalize W0.heap.size = q at B1 ⊢
  clear hb1 p1 b1 BA BB BI BJ HB0 C1 C2
  have HTR : Hid (∀ (v : Int) (B C : Option Addr) (r t : List Int) (n c m d : Nat) (w2 : World), Below W1.heap.size W1 w2 → Ints w2 B r → Ints w2 C t → r.length = n → t.length = m → n ≤ 1000 → m ≤ 1000 → Calls Tryd.prog 115 #[.int .i64 v, useV B n c C m d, .pointer (some ⟨q, 0, none⟩)] w2 fun e w' => e = .returned (.bool (touchF false v r t)) ∧ Below w2.heap.size w2 w') := fun v B C r t n c m d w2 hb h1 h2 h3 h4 h5 h6 => sc_touches false v B C r t n c m d q w2 (Nat.lt_of_lt_of_le B1.out.1 hb.size) ((hb.cell (p := ⟨q, 0, none⟩) B1.out.1).trans (B1.out.2.1 0)) h1 h2 h3 h4 h5 h6
  obtain ⟨-, a1⟩ := BA1.out.c2
  go_upto_region 6 with fail
  go_loopw [35] (fun x wr => ∃ k : Nat, k ≤ ci ∧ x = .int .i64 k ∧ Hid ((i.wt.take k).any (fun v => touchF false v j.rd j.wt) = false) ∧ Hid (Below W1.heap.size W1 wr)) (fun x _ => ci - (intOf x).toNat)
  case atStart => exact ⟨0, Nat.zero_le _, rfl, Lib.hid rfl, Lib.hid (Below.refl _ _)⟩
  case round =>
   obtain ⟨k, hk, rfl, HK, HBR⟩ := hrel
   by_cases hlt : k < ci
   ·obtain ⟨ad, x, rfl, hba, hx, hc, i1, i2⟩ := ((HT.out.grow HW1.out).grow HBR.out).at_ (k := k) (by rw [H2.out]; exact hlt)
    have q1 : (0 : Int) ≤ (k : Int) := by omega
    have q2 : (k : Int) < (ci : Int) := by omega
    have wk : IntKind.i64.wrap ((k : Int) + 1) = ((k + 1 : Nat) : Int) := (IntWalk.i64_in _ (by omega)).trans (by omega)
    have HX := Lib.hid hx
    obtain ⟨T, hT⟩ : ∃ T, touchF false x j.rd j.wt = T := ⟨_, rfl⟩
    have CT := Lib.hid (HTR.out x B' C' j.rd j.wt a' b' c' d' wr HBR.out ((HR'.out.grow HW1.out).grow HBR.out) ((HT'.out.grow HW1.out).grow HBR.out) H3.out H4.out (by omega) (by omega))
    rw [hT] at CT
    have HTT := Lib.hid hT
    obtain ⟨b0, b1⟩ := (Box.keep BB1.out HBR.out).c2
    clear hx hba hT
    cases T with
    | true =>
     go_wp2_with (go_at_call 115; (with_reducible refine CT.out.mono ?_); rintro e1 w2 ⟨rfl, hb2⟩)
     go_ret
     have hRt : R = true := by
      rw [← HRR.out, show i.wt.any (fun v => touchF false v j.rd j.wt) = true from List.any_eq_true.2 ⟨x, List.mem_of_getElem? HX.out, HTT.out⟩]; rfl
     exact ⟨by rw [hRt]; rfl, below_then HW1.out (below_then HBR.out hb2)⟩
    | false =>
     go_wp2_with (go_at_call 115; (with_reducible refine CT.out.mono ?_); rintro e1 w2 ⟨rfl, hb2⟩)
     go_roundw
     case rel => exact ⟨k + 1, by omega, rfl, Lib.hid (by show _ = _; rw [take_snoc' HX.out, List.any_append, HK.out]; simp [HTT.out]), Lib.hid (below_then HBR.out hb2)⟩
     case measure => simp [intOf]; omega
   ·obtain rfl : k = ci := by omega
    have hlo : ¬ (k : Int) < (k : Int) := by omega
    have HF1 : Hid (i.wt.any (fun v => touchF false v j.rd j.wt) = false) := by have := HK.out; rw [← H2.out, List.take_length] at this; exact this
    obtain ⟨-, b1⟩ := (Box.keep BB1.out HBR.out).c2
    clear HK hk
    go_upto_region 12 with fail
    obtain ⟨wo, hwo⟩ : ∃ wo : World, wo = wr := ⟨_, rfl⟩
    go_loopw [47] (fun x wr2 => ∃ m : Nat, m ≤ c' ∧ x = .int .i64 m ∧ Hid ((j.wt.take m).any (fun v => touchF false v i.rd i.wt) = false) ∧ Hid (Below W1.heap.size W1 wr2)) (fun x _ => c' - (intOf x).toNat)
    case atStart => exact ⟨0, Nat.zero_le _, rfl, Lib.hid rfl, HBR⟩
    case round =>
     clear HBR
     obtain ⟨m, hm, rfl, HM, HBR⟩ := hrel
     by_cases hlt2 : m < c'
     ·obtain ⟨ad, x, rfl, hba, hx, hc, i1, i2⟩ := ((HT'.out.grow HW1.out).grow HBR.out).at_ (k := m) (by rw [H4.out]; exact hlt2)
      have q1 : (0 : Int) ≤ (m : Int) := by omega
      have q2 : (m : Int) < (c' : Int) := by omega
      have wk : IntKind.i64.wrap ((m : Int) + 1) = ((m + 1 : Nat) : Int) := (IntWalk.i64_in _ (by omega)).trans (by omega)
      have HX := Lib.hid hx
      obtain ⟨T, hT⟩ : ∃ T, touchF false x i.rd i.wt = T := ⟨_, rfl⟩
      have CT := Lib.hid (HTR.out x B C i.rd i.wt ai bi' k di _ HBR.out ((HR.out.grow HW1.out).grow HBR.out) ((HT.out.grow HW1.out).grow HBR.out) H1.out H2.out (by omega) (by omega))
      rw [hT] at CT
      have HTT := Lib.hid hT
      obtain ⟨a0, a1⟩ := (Box.keep BA1.out HBR.out).c2
      clear hx hba hT
      cases T with
      | true =>
       go_wp2_with (go_at_call 115; (with_reducible refine CT.out.mono ?_); rintro e1 w2 ⟨rfl, hb2⟩)
       go_ret
       have hRt : R = true := by
        rw [← HRR.out, show j.wt.any (fun v => touchF false v i.rd i.wt) = true from List.any_eq_true.2 ⟨x, List.mem_of_getElem? HX.out, HTT.out⟩]; simp
       exact ⟨by rw [hRt]; rfl, below_then HW1.out (below_then HBR.out hb2)⟩
      | false =>
       go_wp2_with (go_at_call 115; (with_reducible refine CT.out.mono ?_); rintro e1 w2 ⟨rfl, hb2⟩)
       go_roundw
       case rel => exact ⟨m + 1, by omega, rfl, Lib.hid (by show _ = _; rw [take_snoc' HX.out, List.any_append, HM.out]; simp [HTT.out]), Lib.hid (below_then HBR.out hb2)⟩
       case measure => simp [intOf]; omega
     ·obtain rfl : m = c' := by omega
      have hlo2 : ¬ (m : Int) < (m : Int) := by omega
      have hRf : R = false := by
       have := HM.out
       rw [← H4.out, List.take_length] at this
       rw [← HRR.out, HF1.out, this]; rfl
      have HRF := Lib.hid hRf
      clear hRf
      go_wp2_with fail
      go_ret
      exact ⟨by rw [HRF.out]; rfl, below_then HW1.out HBR.out⟩
 | true =>
  have hs : s = sj := hs.symm
  subst hs
  go_upto_region 5 with (first
   | (go_at_call 114; first | ((with_reducible refine (C1.out _).mono ?_); rintro e1 w1 ⟨rfl, rfl⟩) | ((with_reducible refine (C2.out _).mono ?_); rintro e1 w1 ⟨rfl, rfl⟩))
   | ((with_reducible show wpList _ _ _ (Oper.mk _ (.store _ _ _) _ _ _ _ :: _) _ _); refine wp_st1 (w := W0.alloc (.cells #[.bool false] 4)) (vs := [.bool false]) (vs' := [.bool s]) rfl _ _ _ rfl W0.heap.size 0 (.bool s) rfl rfl size_bool rfl rfl (Box.new rfl) (by simp) rfl ?_; intro W1 b1 p1))
  have hb1 := put_facts ((Below.refl W0.heap.size W0).alloc (Nat.le_refl _) (.cells #[.bool false] 4)) (Nat.le_refl _) p1
  have HW1 := Lib.hid (below_then HB0.out hb1)
  have BA1 := Lib.hid (Box.keep BA.out hb1)
  have BB1 := Lib.hid (Box.keep BB.out hb1)
  have B1 := Lib.hid b1
  generalize W0.heap.size = q at B1 ⊢
  clear hb1 p1 b1 BA BB BI BJ HB0 C1 C2
  have HTR : Hid (∀ (v : Int) (B C : Option Addr) (r t : List Int) (n c m d : Nat) (w2 : World), Below W1.heap.size W1 w2 → Ints w2 B r → Ints w2 C t → r.length = n → t.length = m → n ≤ 1000 → m ≤ 1000 → Calls Tryd.prog 115 #[.int .i64 v, useV B n c C m d, .pointer (some ⟨q, 0, none⟩)] w2 fun e w' => e = .returned (.bool (touchF s v r t)) ∧ Below w2.heap.size w2 w') := fun v B C r t n c m d w2 hb h1 h2 h3 h4 h5 h6 => sc_touches s v B C r t n c m d q w2 (Nat.lt_of_lt_of_le B1.out.1 hb.size) ((hb.cell (p := ⟨q, 0, none⟩) B1.out.1).trans (B1.out.2.1 0)) h1 h2 h3 h4 h5 h6
  obtain ⟨-, a1⟩ := BA1.out.c2
  go_upto_region 6 with fail
  go_loopw [35] (fun x wr => ∃ k : Nat, k ≤ ci ∧ x = .int .i64 k ∧ Hid ((i.wt.take k).any (fun v => touchF s v j.rd j.wt) = false) ∧ Hid (Below W1.heap.size W1 wr)) (fun x _ => ci - (intOf x).toNat)
  case atStart => exact ⟨0, Nat.zero_le _, rfl, Lib.hid rfl, Lib.hid (Below.refl _ _)⟩
  case round =>
   obtain ⟨k, hk, rfl, HK, HBR⟩ := hrel
   by_cases hlt : k < ci
   ·obtain ⟨ad, x, rfl, hba, hx, hc, i1, i2⟩ := ((HT.out.grow HW1.out).grow HBR.out).at_ (k := k) (by rw [H2.out]; exact hlt)
    have q1 : (0 : Int) ≤ (k : Int) := by omega
    have q2 : (k : Int) < (ci : Int) := by omega
    have wk : IntKind.i64.wrap ((k : Int) + 1) = ((k + 1 : Nat) : Int) := (IntWalk.i64_in _ (by omega)).trans (by omega)
    have HX := Lib.hid hx
    obtain ⟨T, hT⟩ : ∃ T, touchF s x j.rd j.wt = T := ⟨_, rfl⟩
    have CT := Lib.hid (HTR.out x B' C' j.rd j.wt a' b' c' d' wr HBR.out ((HR'.out.grow HW1.out).grow HBR.out) ((HT'.out.grow HW1.out).grow HBR.out) H3.out H4.out (by omega) (by omega))
    rw [hT] at CT
    have HTT := Lib.hid hT
    obtain ⟨b0, b1⟩ := (Box.keep BB1.out HBR.out).c2
    clear hx hba hT
    cases T with
    | true =>
     go_wp2_with (go_at_call 115; (with_reducible refine CT.out.mono ?_); rintro e1 w2 ⟨rfl, hb2⟩)
     go_ret
     have hRt : R = true := by
      rw [← HRR.out, show i.wt.any (fun v => touchF s v j.rd j.wt) = true from List.any_eq_true.2 ⟨x, List.mem_of_getElem? HX.out, HTT.out⟩]; rfl
     exact ⟨by rw [hRt]; rfl, below_then HW1.out (below_then HBR.out hb2)⟩
    | false =>
     go_wp2_with (go_at_call 115; (with_reducible refine CT.out.mono ?_); rintro e1 w2 ⟨rfl, hb2⟩)
     go_roundw
     case rel => exact ⟨k + 1, by omega, rfl, Lib.hid (by show _ = _; rw [take_snoc' HX.out, List.any_append, HK.out]; simp [HTT.out]), Lib.hid (below_then HBR.out hb2)⟩
     case measure => simp [intOf]; omega
   ·obtain rfl : k = ci := by omega
    have hlo : ¬ (k : Int) < (k : Int) := by omega
    have HF1 : Hid (i.wt.any (fun v => touchF s v j.rd j.wt) = false) := by have := HK.out; rw [← H2.out, List.take_length] at this; exact this
    obtain ⟨-, b1⟩ := (Box.keep BB1.out HBR.out).c2
    clear HK hk
    go_upto_region 12 with fail
    obtain ⟨wo, hwo⟩ : ∃ wo : World, wo = wr := ⟨_, rfl⟩
    go_loopw [47] (fun x wr2 => ∃ m : Nat, m ≤ c' ∧ x = .int .i64 m ∧ Hid ((j.wt.take m).any (fun v => touchF s v i.rd i.wt) = false) ∧ Hid (Below W1.heap.size W1 wr2)) (fun x _ => c' - (intOf x).toNat)
    case atStart => exact ⟨0, Nat.zero_le _, rfl, Lib.hid rfl, HBR⟩
    case round =>
     clear HBR
     obtain ⟨m, hm, rfl, HM, HBR⟩ := hrel
     by_cases hlt2 : m < c'
     ·obtain ⟨ad, x, rfl, hba, hx, hc, i1, i2⟩ := ((HT'.out.grow HW1.out).grow HBR.out).at_ (k := m) (by rw [H4.out]; exact hlt2)
      have q1 : (0 : Int) ≤ (m : Int) := by omega
      have q2 : (m : Int) < (c' : Int) := by omega
      have wk : IntKind.i64.wrap ((m : Int) + 1) = ((m + 1 : Nat) : Int) := (IntWalk.i64_in _ (by omega)).trans (by omega)
      have HX := Lib.hid hx
      obtain ⟨T, hT⟩ : ∃ T, touchF s x i.rd i.wt = T := ⟨_, rfl⟩
      have CT := Lib.hid (HTR.out x B C i.rd i.wt ai bi' k di _ HBR.out ((HR.out.grow HW1.out).grow HBR.out) ((HT.out.grow HW1.out).grow HBR.out) H1.out H2.out (by omega) (by omega))
      rw [hT] at CT
      have HTT := Lib.hid hT
      obtain ⟨a0, a1⟩ := (Box.keep BA1.out HBR.out).c2
      clear hx hba hT
      cases T with
      | true =>
       go_wp2_with (go_at_call 115; (with_reducible refine CT.out.mono ?_); rintro e1 w2 ⟨rfl, hb2⟩)
       go_ret
       have hRt : R = true := by
        rw [← HRR.out, show j.wt.any (fun v => touchF s v i.rd i.wt) = true from List.any_eq_true.2 ⟨x, List.mem_of_getElem? HX.out, HTT.out⟩]; simp
       exact ⟨by rw [hRt]; rfl, below_then HW1.out (below_then HBR.out hb2)⟩
      | false =>
       go_wp2_with (go_at_call 115; (with_reducible refine CT.out.mono ?_); rintro e1 w2 ⟨rfl, hb2⟩)
       go_roundw
       case rel => exact ⟨m + 1, by omega, rfl, Lib.hid (by show _ = _; rw [take_snoc' HX.out, List.any_append, HM.out]; simp [HTT.out]), Lib.hid (below_then HBR.out hb2)⟩
       case measure => simp [intOf]; omega
     ·obtain rfl : m = c' := by omega
      have hlo2 : ¬ (m : Int) < (m : Int) := by omega
      have hRf : R = false := by
       have := HM.out
       rw [← H4.out, List.take_length] at this
       rw [← HRR.out, HF1.out, this]; rfl
      have HRF := Lib.hid hRf
      clear hRf
      go_wp2_with fail
      go_ret
      exact ⟨by rw [HRF.out]; rfl, below_then HW1.out HBR.out⟩
end Go.Proofs.YtdiflpbioohddaaDoor
end
section
namespace Go.Proofs.YtdiflpbioohddaaDoor
open Go.RowKit
def depE (l : List Ins) : Int := if fineF l then 0 else 21
theorem fine_encE (l : List Ins) : fineF l = true ↔ encE l = 0 ∧ l.length ≠ 0 := by
 unfold fineF encE inB
 rw [Bool.and_eq_true, Bool.and_eq_true, decide_eq_true_eq, decide_eq_true_eq]
 by_cases h : 512 < l.length
 ·rw [if_pos h]
  constructor
  ·rintro ⟨⟨-, h2⟩, -⟩; omega
  ·rintro ⟨h1, -⟩; exact absurd h1 (by decide)
 ·rw [if_neg h]
  by_cases ha : l.all Ins.formed = true
  ·rw [if_pos ha]
   constructor
   ·rintro ⟨⟨h1, -⟩, -⟩; exact ⟨rfl, by omega⟩
   ·rintro ⟨-, h2⟩; exact ⟨⟨by omega, by omega⟩, ha⟩
  ·rw [if_neg ha]
   constructor
   ·rintro ⟨-, h1⟩; exact absurd h1 ha
   ·rintro ⟨h1, -⟩; exact absurd h1 (by decide)
def UsesAt (w : World) (A : Option Addr) (l : List Ins) : Prop := ∀ (k : Nat) i, l[k]? = some i → ∃ ad B b C c, A = some ad ∧ ad.spot = none ∧ ad.block < w.heap.size ∧ w.rangeAt ad.block (ad.off + k * 2) [.slice B i.rd.length b, .slice C i.wt.length c] ∧ Ints w B i.rd ∧ Ints w C i.wt
theorem UsesAt.grow {w w' : World} {A : Option Addr} {l : List Ins} (h : UsesAt w A l) (hb : Below w.heap.size w w') : UsesAt w' A l := fun k i hk => by
 obtain ⟨ad, B, b, C, c, e, h1, h2, h3, h4, h5⟩ := h k i hk
 exact ⟨ad, B, b, C, c, e, h1, Nat.lt_of_lt_of_le h2 hb.size, range_keepI h3 h2 hb, h4.grow hb, h5.grow hb⟩
theorem info_use : (Tryd.prog.info? 144).map (fun i => (i.zero, i.size, i.bytes)) = some (some (.agg #[.slice none 0 0, .slice none 0 0]), 2, 48) := by kernel_rfl
theorem row_use : ∃ d, Tryd.prog.underlying 144 = some d ∧ d.isRow = true := ⟨_, Tryd.underlying144, rfl⟩
theorem size_use : (Tryd.prog.info? 144).map (·.size) = some 2 := by kernel_rfl
def OwnU (base : Nat) (w : World) (g n : Nat) (us : List Ins) : Prop :=
 ∃ vs : List Value, w.ownsRow base 144 2 (.slice (some ⟨g, 0, none⟩) n n) n vs ∧ vs.length = n * 2 ∧ base ≤ g ∧ us.length ≤ n ∧
  ∀ (k : Nat) i, us[k]? = some i → ∃ B b C c, vs[k * 2]? = some (.slice B i.rd.length b) ∧ vs[k * 2 + 1]? = some (.slice C i.wt.length c) ∧ IntsF (g + 1) w B i.rd ∧ IntsF (g + 1) w C i.wt
theorem OwnU.grow {base : Nat} {w w' : World} {g n : Nat} {us : List Ins} (h : OwnU base w g n us) (hb : Below w.heap.size w w') : OwnU base w' g n us := by
 obtain ⟨vs, h1, h2, h3, h4, h5⟩ := h
 refine ⟨vs, own_grow h1 hb, h2, h3, h4, fun k i hk => ?_⟩
 obtain ⟨B, b, C, c, e1, e2, i1, i2⟩ := h5 k i hk
 exact ⟨B, b, C, c, e1, e2, i1.grow hb, i2.grow hb⟩
theorem OwnU.lt {base : Nat} {w : World} {g n : Nat} {us : List Ins} (h : OwnU base w g n us) : g < w.heap.size := by
 obtain ⟨vs, h1, -⟩ := h
 exact (h1.lt g rfl).2
theorem OwnU.cell {base : Nat} {w : World} {g n : Nat} {us : List Ins} (h : OwnU base w g n us) {j : Nat} (hj : j < n * 2) : (∃ v, w.cell? ⟨g, j, none⟩ = some v) ∧ w.frozen? ⟨g, j, none⟩ = false := by
 obtain ⟨vs, h1, h2, -⟩ := h
 exact ⟨⟨vs[j]'(by omega), by rw [h1.cellAt j hj]; exact List.getElem?_eq_getElem _⟩, h1.frozenAt j⟩
theorem OwnU.at {base : Nat} {w : World} {g n : Nat} {us : List Ins} (h : OwnU base w g n us) : UsesAt w (some ⟨g, 0, none⟩) us := fun k i hk => by
 have hg := h.lt
 obtain ⟨vs, h1, h2, h3, h4, h5⟩ := h
 obtain ⟨B, b, C, c, e1, e2, i1, i2⟩ := h5 k i hk
 have hkl := (List.getElem?_eq_some_iff.1 hk).1
 refine ⟨_, B, b, C, c, rfl, rfl, hg, fun j v hj => ?_, i1.1, i2.1⟩
 show w.cell? ⟨g, 0 + k * 2 + j, none⟩ = _
 match j, hj with
 | 0, hj =>
  rw [show 0 + k * 2 + 0 = k * 2 by omega, h1.cellAt _ (by omega), e1]; exact hj
 | 1, hj =>
  rw [show 0 + k * 2 + 1 = k * 2 + 1 by omega, h1.cellAt _ (by omega), e2]; exact hj
 | j + 2, hj => simp at hj
theorem OwnU.set {base : Nat} {w : World} {g n : Nat} {us : List Ins} {i : Ins} {B C : Option Addr} {b c : Nat} (h : OwnU base w g n us) (hn : us.length < n) (hB : IntsF (g + 1) w B i.rd) (hC : IntsF (g + 1) w C i.wt) :
  OwnU base ((w.setCell ⟨g, us.length * 2, none⟩ (.slice B i.rd.length b)).setCell ⟨g, us.length * 2 + 1, none⟩ (.slice C i.wt.length c)) g n (us ++ [i]) := by
 obtain ⟨vs, h1, h2, h3, h4, h5⟩ := h
 obtain ⟨o1, g1⟩ := h1.stored (us.length * 2) (.slice B i.rd.length b)
 obtain ⟨o2, g2⟩ := o1.stored (us.length * 2 + 1) (.slice C i.wt.length c)
 have away : ∀ (A : Option Addr) (l : List Int), IntsF (g + 1) w A l → IntsF (g + 1) ((w.setCell ⟨g, us.length * 2, none⟩ (.slice B i.rd.length b)).setCell ⟨g, us.length * 2 + 1, none⟩ (.slice C i.wt.length c)) A l := fun A l hi => (hi.away g1 (by omega)).away g2 (by omega)
 refine ⟨_, o2, by simp [h2], h3, by rw [List.length_append]; simp; omega, fun k x hk => ?_⟩
 by_cases e : k = us.length
 ·subst e
  rw [List.getElem?_append_right (Nat.le_refl _), Nat.sub_self] at hk
  simp only [List.getElem?_cons_zero, Option.some.injEq] at hk
  subst hk
  refine ⟨B, b, C, c, ?_, ?_, away _ _ hB, away _ _ hC⟩
  ·rw [List.getElem?_set_ne (by omega), List.getElem?_set_self (by omega)]
  ·rw [List.getElem?_set_self (by simp; omega)]
 ·have hlt : k < us.length := by
   have := (List.getElem?_eq_some_iff.1 hk).1
   rw [List.length_append] at this; simp at this; omega
  rw [List.getElem?_append_left hlt] at hk
  obtain ⟨B', b', C', c', e1, e2, i1, i2⟩ := h5 k x hk
  refine ⟨B', b', C', c', ?_, ?_, away _ _ i1, away _ _ i2⟩
  ·rw [List.getElem?_set_ne (by omega), List.getElem?_set_ne (by omega)]; exact e1
  ·rw [List.getElem?_set_ne (by omega), List.getElem?_set_ne (by omega)]; exact e2
theorem mk_use {ops : Array Oper} {rest : List Oper} {o : Oper} {a : Act} {Q : Exit → Act → World → Prop} {w : World} (hg : o.guard = none) (s c : Operand) (hop : o.op = Op.makeSlice 138 s c)
  (n : Nat) {N : Int} (hs : a.eval s = .int .i64 N) (hc : a.eval c = .int .i64 N) (hN : N = (n : Int)) (hn : n ≤ 100000000)
  (h : ∀ w', OwnU w.heap.size w' w.heap.size n [] → Below w.heap.size w w' → wpList Tryd.prog ops Q rest (a.put o.dst (.slice (some ⟨w.heap.size, 0, none⟩) n n)) w') :
  wpList Tryd.prog ops Q (o :: rest) a w := by
 subst hN
 obtain ⟨i0, hi, hz0, hz1, hz2⟩ := info_parts info_use
 refine wpList_make_full w hg s c 138 hop w.heap.size 144 i0 (.agg #[.slice none 0 0, .slice none 0 0]) 2 Tryd.underlying138 hi hz0 hz1 .i64 .i64 n n n hs hc rfl rfl (by rw [hz2]; omega) (by unfold maxLen; omega) (Nat.le_refl _) fun w' h1 h2 => h w' ⟨_, h1, ?_, Nat.le_refl _, Nat.zero_le _, fun k i hk => by simp at hk⟩ ?_
 ·simp [size_madeCells]
 ·exact (Below.refl _ _).grown h2 (Nat.le_refl _) (by intro k hk; cases hk)
def RetUses (w : World) (l : List Ins) (e : Ending) (w' : World) : Prop := (∃ A c, e = .returned (.tuple #[.slice A (if fineF l then l.length else 0) c, .int .i64 (depE l)]) ∧ (fineF l = true → UsesAt w' A l)) ∧ Below w.heap.size w w'
set_option maxRecDepth 100000 in
set_option maxHeartbeats 4000000 in
theorem sc_uses (A : Option Addr) (n c : Nat) (l : List Ins) (w : World) (hf : FormsAt w) (h : InsAt w A l) (hn : l.length = n) (h9 : n ≤ 9223372036854775807) : Calls Tryd.prog 81 #[.slice A n c] w (RetUses w l) := by
 have CE := Lib.hid (pr_Encode A n c l w hf h hn h9)
 have HI := Lib.hid h
 have HN := Lib.hid hn
 have HF := Lib.hid hf
 clear h hn hf
 obtain ⟨E, hE⟩ : ∃ E, encE l = E := ⟨_, rfl⟩
 rw [hE] at CE
 by_cases hfl : fineF l = true
 ·obtain ⟨e0, e1⟩ := (fine_encE l).1 hfl
  have hE0 : E = 0 := hE.symm.trans e0
  subst hE0
  have hn512 : n ≤ 512 := by
   unfold fineF inB at hfl
   rw [Bool.and_eq_true, Bool.and_eq_true, decide_eq_true_eq, decide_eq_true_eq, HN.out] at hfl
   omega
  rw [HN.out] at e1
  have q0 : ¬ (n : Int) = 0 := by omega
  have q00 : ((n : Int) == 0) = false := by simpa using q0
  have HFL := Lib.hid hfl
  clear hE e0 hfl e1
  go_enter Tryd.func81, Tryd.ntmps81
  go_upto_region 4 with (go_at_call 84; (with_reducible refine CE.out.mono ?_); rintro e1 w1 ⟨⟨v, rfl, -⟩, hb1⟩)
  go_upto_region 5 with ((with_reducible show wpList _ _ _ (Oper.mk (some 23) _ _ _ _ _ :: _) _ _); refine mk_use rfl _ _ rfl n rfl rfl rfl (by omega) ?_; intro w2 ho2 hb2)
  have HO2 := Lib.hid ho2
  have HB2 := Lib.hid (below_then hb1 hb2)
  have HG1 : Hid (w.heap.size ≤ w1.heap.size) := hb1.size
  generalize w1.heap.size = g at HO2 HG1 ⊢
  clear ho2 hb2 hb1 q0 q00
  go_wp2_with fail
  go_loopw [26] (fun x wr => ∃ k : Nat, k ≤ n ∧ x = .int .i64 k ∧ Hid (OwnU g wr g n (l.take k)) ∧ Hid (Below w.heap.size w wr)) (fun x _ => n - (intOf x).toNat)
  case atStart => exact ⟨0, Nat.zero_le _, rfl, HO2, HB2⟩
  case round =>
   obtain ⟨k, hk, rfl, HO, HB⟩ := hrel
   by_cases hlt : k < n
   ·obtain ⟨i, hi⟩ : ∃ i, l[k]? = some i := ⟨_, List.getElem?_eq_getElem (by rw [HN.out]; exact hlt)⟩
    obtain ⟨ad, rfl, hs, hb, hr, hok⟩ := (HI.out.grow HB.out) k i hi
    have HS := Lib.hid hs
    have HR := Lib.hid hr
    have HK := Lib.hid hi
    have HTL : Hid ((l.take k).length = k) := by show _ = _; rw [List.length_take, HN.out]; omega
    have q1 : (0 : Int) ≤ (k : Int) := by omega
    have q2 : (k : Int) < (n : Int) := by omega
    have wk : IntKind.i64.wrap ((k : Int) + 1) = ((k + 1 : Nat) : Int) := (IntWalk.i64_in _ (by omega)).trans (by omega)
    have CU : Hid (∀ w1, Below wr.heap.size wr w1 → Calls Tryd.prog 85 #[i.v] w1 (RetII w1 i.rd i.wt)) := fun w1 hb => pr_Uses i w1 ((HF.out.grow HB.out).grow hb) hok
    clear hs hr hb hok hi
    go_upto_region 8 with (first
     | ((with_reducible show wpList _ _ _ (Oper.mk _ (.load _ _) _ _ _ _ :: _) _ _); refine ld_insA HS.out HR.out rfl _ rfl rfl ?_)
     | ((with_reducible show wpList _ _ _ (Oper.mk _ (.store _ _ _) _ _ _ _ :: _) _ _); refine st_ins (w := wr.alloc (.cells Ins.zero.cells.toArray 109)) (g := wr.heap.size) (i := Ins.zero) (j := i) (Box.new rfl) rfl _ _ rfl rfl rfl ?_; intro W2 b2 p2))
    have hb2 := put_facts ((Below.refl wr.heap.size wr).alloc (Nat.le_refl _) (.cells Ins.zero.cells.toArray 109)) (Nat.le_refl _) p2
    generalize wr.heap.size = g8 at b2 ⊢
    go_upto_region 9 with (first
     | ((with_reducible show wpList _ _ _ (Oper.mk _ (.load _ _) _ _ _ _ :: _) _ _); refine ld_ins b2 rfl _ rfl rfl ?_)
     | (go_at_call 85; (with_reducible refine (CU.out _ hb2).mono ?_); rintro e1 w3 ⟨RA, WA, rc, wc, rfl, hra, hwa, hb3⟩; have ho3 := HO.out.grow (below_then hb2 hb3); obtain ⟨⟨x0, c0⟩, f0⟩ := ho3.cell (j := k * 2) (by omega); obtain ⟨⟨x1, c1⟩, f1⟩ := ho3.cell (j := k * 2 + 1) (by omega)))
    have hgs : g < W2.heap.size := Nat.lt_of_lt_of_le HO.out.lt hb2.size
    have ho5 := OwnU.set (i := i) (b := rc) (c := wc) ho3 (by rw [HTL.out]; exact hlt) (hra.base (by omega)) (hwa.base (by omega))
    rw [HTL.out, ← take_snoc' HK.out] at ho5
    have hb5 := put_facts (below_then HB.out (below_then hb2 hb3)) HG1.out (grown_set (grown_set (grown_refl w3 (some g)) (k := k * 2) (u := .slice RA i.rd.length rc)) (k := k * 2 + 1) (u := .slice WA i.wt.length wc))
    have HO5 := Lib.hid ho5
    have HB5 := Lib.hid hb5
    clear ho5 hb5 hra hwa hb2 hb3 ho3 f0 f1 c0 c1 b2 p2
    go_wp2_with fail
    go_roundw
    case rel => exact ⟨k + 1, by omega, rfl, HO5, HB5⟩
    case measure => simp [intOf]; omega
   ·obtain rfl : k = n := by omega
    have hlo : ¬ (k : Int) < (k : Int) := by omega
    have hat := HO.out.at
    rw [← HN.out, List.take_length] at hat
    have HAT := Lib.hid hat
    clear hat
    go_wp2_with fail
    go_ret2
    refine ⟨⟨some ⟨g, 0, none⟩, k, ?_, fun _ => HAT.out⟩, HB.out⟩
    unfold depE
    rw [if_pos HFL.out, if_pos HFL.out, HN.out]; rfl
 ·have hfl : fineF l = false := by simpa using hfl
  have HFL := Lib.hid hfl
  by_cases hE0 : E = 0
  ·subst hE0
   have hn0 : n = 0 := by
    have := mt (fine_encE l).2 (by rw [hfl]; decide)
    rw [HN.out] at this
    by_cases h0 : n = 0
    ·exact h0
    ·exact absurd ⟨hE, h0⟩ this
   subst hn0
   clear hE hfl
   go_enter Tryd.func81, Tryd.ntmps81
   go_wp2_with (go_at_call 84; (with_reducible refine CE.out.mono ?_); rintro e1 w1 ⟨⟨v, rfl, -⟩, hb1⟩)
   go_ret2
   refine ⟨⟨none, 0, ?_, fun h => absurd (HFL.out.symm.trans h) (by decide)⟩, hb1⟩
   unfold depE
   rw [HFL.out]; rfl
  ·have hEb : (E == 0) = false := by simpa using hE0
   clear hE hfl
   go_enter Tryd.func81, Tryd.ntmps81
   go_wp2_with (go_at_call 84; (with_reducible refine CE.out.mono ?_); rintro e1 w1 ⟨⟨v, rfl, -⟩, hb1⟩)
   go_ret2
   refine ⟨⟨none, 0, ?_, fun h => absurd (HFL.out.symm.trans h) (by decide)⟩, hb1⟩
   unfold depE
   rw [HFL.out]; rfl
end Go.Proofs.YtdiflpbioohddaaDoor
end
