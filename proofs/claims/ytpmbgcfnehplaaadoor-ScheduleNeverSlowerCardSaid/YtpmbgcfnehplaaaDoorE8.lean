/- depends of package schedule (a closure), conflict of the reference of layer 40. -/
import Derived.Test.YtpmbgcfnehplaaaDoorE7
set_option linter.unusedVariables false
set_option linter.unusedSimpArgs false
namespace Go.Proofs.YtpmbgcfnehplaaaDoor
open Go.RowKit

theorem rd_len (i : Ins) : i.rd.length ≤ 2 := by unfold Ins.rd; split <;> (try split) <;> simp
theorem wt_len (i : Ins) : i.wt.length ≤ 1 := by unfold Ins.wt; split <;> (try split) <;> simp
abbrev useV (B : Option Addr) (n c : Nat) (C : Option Addr) (m d : Nat) : Value := .agg #[.slice B n c, .slice C m d]
set_option maxRecDepth 100000 in
theorem sc_touches (s : Bool) (v : Int) (B C : Option Addr) (r t : List Int) (n c m d g : Nat) (w : World) (hg : g < w.heap.size) (hs : w.cell? ⟨g, 0, none⟩ = some (.bool s)) (hr : Ints w B r) (ht : Ints w C t) (hn : r.length = n) (hm : t.length = m) (hn9 : n ≤ 1000) (hm9 : m ≤ 1000) :
    Calls Tryd.prog 57 #[.int .i64 v, useV B n c C m d, .pointer (some ⟨g, 0, none⟩)] w fun e w' => e = .returned (.bool (touchF s v r t)) ∧ Below w.heap.size w w' := by
  have C1 : Hid (∀ w1, Below w.heap.size w w1 → Calls Tryd.prog 55 #[.slice B n c, .int .i64 v] w1 fun e w' => e = .returned (.bool (r.contains v)) ∧ w1 = w') := fun w1 hb => sl_Contains B r c n v w1 hn (by omega) (hr.grow hb)
  have C2 : Hid (∀ w1, Below w.heap.size w w1 → Calls Tryd.prog 55 #[.slice C m d, .int .i64 v] w1 fun e w' => e = .returned (.bool (t.contains v)) ∧ w1 = w') := fun w1 hb => sl_Contains C t d m v w1 hm (by omega) (ht.grow hb)
  have HS := Lib.hid hs
  have hb0 : Hid (Below w.heap.size w (w.alloc (.cells #[.slice B n c, .slice C m d] 77))) := (Below.refl _ _).alloc (Nat.le_refl _) _
  obtain ⟨x, hx⟩ : ∃ x, r.contains v = x := ⟨_, rfl⟩
  obtain ⟨y, hy⟩ : ∃ x, t.contains v = x := ⟨_, rfl⟩
  have hs1 : (w.alloc (.cells #[.slice B n c, .slice C m d] 77)).cell? ⟨g, 0, none⟩ = some (.bool s) := (hb0.out.cell (p := ⟨g, 0, none⟩) hg).trans hs
  unfold touchF
  rw [hx, hy]
  rw [hx] at C1
  rw [hy] at C2
  clear hr ht hx hy hs HS
  cases s with
  | true =>
    by_cases e : v = 8
    · subst e
      show Calls Tryd.prog 57 #[.int .i64 8, useV B n c C m d, .pointer (some ⟨g, 0, none⟩)] w fun e w' => e = .returned (.bool false) ∧ Below w.heap.size w w'
      go_enter Tryd.func57, Tryd.ntmps57
      go_wp2_with fail
      go_ret
      exact ⟨rfl, hb0.out⟩
    · have e8 : (v == 8) = false := by simpa using e
      have d8 : decide (v = 8) = false := decide_eq_false e
      rw [e8]
      show Calls Tryd.prog 57 #[.int .i64 v, useV B n c C m d, .pointer (some ⟨g, 0, none⟩)] w fun e w' => e = .returned (.bool (x || y)) ∧ Below w.heap.size w w'
      cases x with
      | true =>
        go_enter Tryd.func57, Tryd.ntmps57
        go_wp2_with (go_at_call 55; first | ((with_reducible refine (C1.out _ hb0.out).mono ?_); rintro e1 w1 ⟨rfl, rfl⟩) | ((with_reducible refine (C2.out _ hb0.out).mono ?_); rintro e1 w1 ⟨rfl, rfl⟩))
        go_ret
        exact ⟨rfl, hb0.out⟩
      | false =>
        go_enter Tryd.func57, Tryd.ntmps57
        go_wp2_with (go_at_call 55; first | ((with_reducible refine (C1.out _ hb0.out).mono ?_); rintro e1 w1 ⟨rfl, rfl⟩) | ((with_reducible refine (C2.out _ hb0.out).mono ?_); rintro e1 w1 ⟨rfl, rfl⟩))
        go_ret
        exact ⟨rfl, hb0.out⟩
  | false =>
    show Calls Tryd.prog 57 #[.int .i64 v, useV B n c C m d, .pointer (some ⟨g, 0, none⟩)] w fun e w' => e = .returned (.bool (x || y)) ∧ Below w.heap.size w w'
    cases x with
    | true =>
      go_enter Tryd.func57, Tryd.ntmps57
      go_wp2_with (go_at_call 55; first | ((with_reducible refine (C1.out _ hb0.out).mono ?_); rintro e1 w1 ⟨rfl, rfl⟩) | ((with_reducible refine (C2.out _ hb0.out).mono ?_); rintro e1 w1 ⟨rfl, rfl⟩))
      go_ret
      exact ⟨rfl, hb0.out⟩
    | false =>
      go_enter Tryd.func57, Tryd.ntmps57
      go_wp2_with (go_at_call 55; first | ((with_reducible refine (C1.out _ hb0.out).mono ?_); rintro e1 w1 ⟨rfl, rfl⟩) | ((with_reducible refine (C2.out _ hb0.out).mono ?_); rintro e1 w1 ⟨rfl, rfl⟩))
      go_ret
      exact ⟨rfl, hb0.out⟩
theorem size_bool : (Tryd.prog.info? 4).map (·.size) = some 1 := by kernel_rfl
theorem entryD (w : World) (i j : Ins) (B : Option Addr) (a b : Nat) (C : Option Addr) (c d : Nat) (B' : Option Addr) (a' b' : Nat) (C' : Option Addr) (c' d' : Nat) : ∀ W, W = ((((w.alloc (.cells i.cells.toArray 48)).alloc (.cells j.cells.toArray 48)).alloc (.cells #[.slice B a b, .slice C c d] 77)).alloc (.cells #[.slice B' a' b', .slice C' c' d'] 77)) →
    Box W w.heap.size i.cells ∧ Box W (w.heap.size + 1) j.cells ∧ Box W (w.heap.size + 1 + 1) [.slice B a b, .slice C c d] ∧ Box W (w.heap.size + 1 + 1 + 1) [.slice B' a' b', .slice C' c' d'] ∧ Below w.heap.size w W := fun W hW => by
  subst hW
  exact ⟨Box.alloc (Box.alloc (Box.alloc (Box.new rfl) _) _) _, Box.alloc (Box.alloc (Box.new (by simp)) _) _, Box.alloc (Box.new (by simp)) _, Box.new (by simp), ((((Below.refl w.heap.size w).alloc (Nat.le_refl _) _).alloc (by simp) _).alloc (by simp; omega) _).alloc (by simp; omega) _⟩
set_option maxRecDepth 100000 in
set_option maxHeartbeats 4000000 in
theorem sc_depends (i j : Ins) (B C B' C' : Option Addr) (ai bi' ci di a' b' c' d' : Nat) (w : World) (hr : Ints w B i.rd) (ht : Ints w C i.wt) (hr' : Ints w B' j.rd) (ht' : Ints w C' j.wt) (h1 : i.rd.length = ai) (h2 : i.wt.length = ci) (h3 : j.rd.length = a') (h4 : j.wt.length = c') :
    Calls Tryd.prog 44 #[i.v, j.v, useV B ai bi' C ci di, useV B' a' b' C' c' d'] w fun e w' => e = .returned (.bool (depF i j)) ∧ Below w.heap.size w w' := by
  have k1 := rd_len i
  have k2 := wt_len i
  have k3 := rd_len j
  have k4 := wt_len j
  rw [h1] at k1
  rw [h2] at k2
  rw [h3] at k3
  rw [h4] at k4
  have HR := Lib.hid hr
  have HT := Lib.hid ht
  have HR' := Lib.hid hr'
  have HT' := Lib.hid ht'
  have H1 := Lib.hid h1
  have H2 := Lib.hid h2
  have H3 := Lib.hid h3
  have H4 := Lib.hid h4
  clear hr ht hr' ht' h1 h2 h3 h4
  unfold depF
  by_cases hi : i.op = 0
  · have hd : (i.op == 0) = true := by simpa using hi
    have hd2 : decide (i.op = 0) = true := decide_eq_true hi
    rw [hd]
    have HI0 := Lib.hid hi
    clear hi hd hd2
    show Calls Tryd.prog 44 #[i.v, j.v, useV B ai bi' C ci di, useV B' a' b' C' c' d'] w fun e w' => e = .returned (.bool true) ∧ Below w.heap.size w w'
    go_enter Tryd.func44, Tryd.ntmps44
    go_upto_region 1 with fail
    obtain ⟨bi, bj, ba, bb, hb0⟩ := entryD w i j B ai bi' C ci di B' a' b' C' c' d' _ rfl
    change Code.wp _ _ _ _ ((((w.alloc (.cells i.cells.toArray 48)).alloc (.cells j.cells.toArray 48)).alloc (.cells #[.slice B ai bi', .slice C ci di] 77)).alloc (.cells #[.slice B' a' b', .slice C' c' d'] 77))
    generalize ((((w.alloc (.cells i.cells.toArray 48)).alloc (.cells j.cells.toArray 48)).alloc (.cells #[.slice B ai bi', .slice C ci di] 77)).alloc (.cells #[.slice B' a' b', .slice C' c' d'] 77)) = W0 at bi bj ba bb hb0 ⊢
    obtain ⟨y0, -, -, -⟩ := bi.c4
    obtain ⟨z0, -, -, -⟩ := bj.c4
    obtain ⟨a0, a1⟩ := ba.c2
    obtain ⟨b0, b1⟩ := bb.c2
    rw [HI0.out] at y0
    go_wp2_with fail
    go_ret
    exact ⟨rfl, hb0⟩
  have hd : (i.op == 0) = false := by simpa using hi
  have hdd : decide (i.op = 0) = false := decide_eq_false hi
  by_cases hj : j.op = 0
  · have hd' : (j.op == 0) = true := by simpa using hj
    rw [hd, hd']
    have HJ0 := Lib.hid hj
    have HDI := Lib.hid hdd
    have HDE := Lib.hid hd
    clear hj hd' hd hdd hi
    show Calls Tryd.prog 44 #[i.v, j.v, useV B ai bi' C ci di, useV B' a' b' C' c' d'] w fun e w' => e = .returned (.bool true) ∧ Below w.heap.size w w'
    go_enter Tryd.func44, Tryd.ntmps44
    go_upto_region 1 with fail
    obtain ⟨bi, bj, ba, bb, hb0⟩ := entryD w i j B ai bi' C ci di B' a' b' C' c' d' _ rfl
    change Code.wp _ _ _ _ ((((w.alloc (.cells i.cells.toArray 48)).alloc (.cells j.cells.toArray 48)).alloc (.cells #[.slice B ai bi', .slice C ci di] 77)).alloc (.cells #[.slice B' a' b', .slice C' c' d'] 77))
    generalize ((((w.alloc (.cells i.cells.toArray 48)).alloc (.cells j.cells.toArray 48)).alloc (.cells #[.slice B ai bi', .slice C ci di] 77)).alloc (.cells #[.slice B' a' b', .slice C' c' d'] 77)) = W0 at bi bj ba bb hb0 ⊢
    obtain ⟨y0, -, -, -⟩ := bi.c4
    obtain ⟨z0, -, -, -⟩ := bj.c4
    obtain ⟨a0, a1⟩ := ba.c2
    obtain ⟨b0, b1⟩ := bb.c2
    rw [HJ0.out] at z0
    have hdd := HDI.out
    have hde := HDE.out
    go_wp2_with fail
    go_ret
    exact ⟨rfl, hb0⟩
  have hd' : (j.op == 0) = false := by simpa using hj
  have hdd' : decide (j.op = 0) = false := decide_eq_false hj
  rw [hd, hd']
  obtain ⟨s, hs⟩ : ∃ s, (sumOp i.op && sumOp j.op) = s := ⟨_, rfl⟩
  rw [hs]
  obtain ⟨R, hR⟩ : ∃ R, (i.wt.any (fun v => touchF s v j.rd j.wt) || j.wt.any (fun v => touchF s v i.rd i.wt)) = R := ⟨_, rfl⟩
  have HRR := Lib.hid hR
  rw [hR]
  show Calls Tryd.prog 44 #[i.v, j.v, useV B ai bi' C ci di, useV B' a' b' C' c' d'] w fun e w' => e = .returned (.bool R) ∧ Below w.heap.size w w'
  clear hR
  have CP : Hid (∀ op w1, Calls Tryd.prog 56 #[.int .i64 op] w1 fun e w' => e = .returned (.bool (sumOp op)) ∧ w1 = w') := fun op w1 => sc_product op w1
  go_enter Tryd.func44, Tryd.ntmps44
  go_upto_region 1 with fail
  obtain ⟨bi, bj, ba, bb, hb0⟩ := entryD w i j B ai bi' C ci di B' a' b' C' c' d' _ rfl
  change Code.wp _ _ _ _ ((((w.alloc (.cells i.cells.toArray 48)).alloc (.cells j.cells.toArray 48)).alloc (.cells #[.slice B ai bi', .slice C ci di] 77)).alloc (.cells #[.slice B' a' b', .slice C' c' d'] 77))
  generalize ((((w.alloc (.cells i.cells.toArray 48)).alloc (.cells j.cells.toArray 48)).alloc (.cells #[.slice B ai bi', .slice C ci di] 77)).alloc (.cells #[.slice B' a' b', .slice C' c' d'] 77)) = W0 at bi bj ba bb hb0 ⊢
  obtain ⟨y0, -, -, -⟩ := bi.c4
  obtain ⟨z0, -, -, -⟩ := bj.c4
  obtain ⟨a0, a1⟩ := ba.c2
  obtain ⟨b0, b1⟩ := bb.c2
  have HB0 := Lib.hid hb0
  have BI := Lib.hid bi
  have BJ := Lib.hid bj
  have BA := Lib.hid ba
  have BB := Lib.hid bb
  have hmf : ∀ (fn : Fn) (first cap : Array Value) (w : World), (Instr.makeFunc fn first cap).run Tryd.prog w = .ok (.func fn first cap) w := fun _ _ _ _ => rfl
  go_upto_region 3 with fail
  clear hd hdd hd' hdd' hi hj
  obtain ⟨si, hsi⟩ : ∃ x, sumOp i.op = x := ⟨_, rfl⟩
  obtain ⟨sj, hsj⟩ : ∃ x, sumOp j.op = x := ⟨_, rfl⟩
  have C1 : Hid (∀ w1, Calls Tryd.prog 56 #[.int .i64 i.op] w1 fun e w' => e = .returned (.bool si) ∧ w1 = w') := fun w1 => by have := CP.out i.op w1; rw [hsi] at this; exact this
  have C2 : Hid (∀ w1, Calls Tryd.prog 56 #[.int .i64 j.op] w1 fun e w' => e = .returned (.bool sj) ∧ w1 = w') := fun w1 => by have := CP.out j.op w1; rw [hsj] at this; exact this
  rw [hsi, hsj] at hs
  clear hsi hsj CP
  cases si with
  | false =>
    have hs : s = false := hs.symm
    subst hs
    go_upto_region 5 with (first
      | (go_at_call 56; first | ((with_reducible refine (C1.out _).mono ?_); rintro e1 w1 ⟨rfl, rfl⟩) | ((with_reducible refine (C2.out _).mono ?_); rintro e1 w1 ⟨rfl, rfl⟩))
      | ((with_reducible show wpList _ _ _ (Oper.mk _ (.store _ _ _) _ _ _ _ :: _) _ _); refine wp_st1 (w := W0.alloc (.cells #[.bool false] 4)) (vs := [.bool false]) (vs' := [.bool false]) rfl _ _ _ rfl W0.heap.size 0 (.bool false) rfl rfl size_bool rfl rfl (Box.new rfl) (by simp) rfl ?_; intro W1 b1 p1))
    have hb1 := put_facts ((Below.refl W0.heap.size W0).alloc (Nat.le_refl _) (.cells #[.bool false] 4)) (Nat.le_refl _) p1
    have HW1 := Lib.hid (below_then HB0.out hb1)
    have BA1 := Lib.hid (Box.keep BA.out hb1)
    have BB1 := Lib.hid (Box.keep BB.out hb1)
    have B1 := Lib.hid b1
    generalize W0.heap.size = q at B1 ⊢
    clear hb1 p1 b1 BA BB BI BJ HB0 C1 C2
    have HTR : Hid (∀ (v : Int) (B C : Option Addr) (r t : List Int) (n c m d : Nat) (w2 : World), Below W1.heap.size W1 w2 → Ints w2 B r → Ints w2 C t → r.length = n → t.length = m → n ≤ 1000 → m ≤ 1000 → Calls Tryd.prog 57 #[.int .i64 v, useV B n c C m d, .pointer (some ⟨q, 0, none⟩)] w2 fun e w' => e = .returned (.bool (touchF false v r t)) ∧ Below w2.heap.size w2 w') := fun v B C r t n c m d w2 hb h1 h2 h3 h4 h5 h6 => sc_touches false v B C r t n c m d q w2 (Nat.lt_of_lt_of_le B1.out.1 hb.size) ((hb.cell (p := ⟨q, 0, none⟩) B1.out.1).trans (B1.out.2.1 0)) h1 h2 h3 h4 h5 h6
    obtain ⟨-, a1⟩ := BA1.out.c2
    go_upto_region 6 with fail
    go_loopw [35] (fun x wr => ∃ k : Nat, k ≤ ci ∧ x = .int .i64 k ∧ Hid ((i.wt.take k).any (fun v => touchF false v j.rd j.wt) = false) ∧ Hid (Below W1.heap.size W1 wr)) (fun x _ => ci - (intOf x).toNat)
    case atStart => exact ⟨0, Nat.zero_le _, rfl, Lib.hid rfl, Lib.hid (Below.refl _ _)⟩
    case round =>
      obtain ⟨k, hk, rfl, HK, HBR⟩ := hrel
      by_cases hlt : k < ci
      · obtain ⟨ad, x, rfl, hba, hx, hc, i1, i2⟩ := ((HT.out.grow HW1.out).grow HBR.out).at_ (k := k) (by rw [H2.out]; exact hlt)
        have q1 : (0 : Int) ≤ (k : Int) := by omega
        have q2 : (k : Int) < (ci : Int) := by omega
        have wk : IntKind.i64.wrap ((k : Int) + 1) = ((k + 1 : Nat) : Int) := (IntWalk.i64_in _ (by omega)).trans (by omega)
        have HX := Lib.hid hx
        obtain ⟨T, hT⟩ : ∃ T, touchF false x j.rd j.wt = T := ⟨_, rfl⟩
        have CT := Lib.hid (HTR.out x B' C' j.rd j.wt a' b' c' d' wr HBR.out ((HR'.out.grow HW1.out).grow HBR.out) ((HT'.out.grow HW1.out).grow HBR.out) H3.out H4.out (by omega) (by omega))
        rw [hT] at CT
        have HTT := Lib.hid hT
        obtain ⟨b0, b1⟩ := (Box.keep BB1.out HBR.out).c2
        clear hx hba hT
        cases T with
        | true =>
          go_wp2_with (go_at_call 57; (with_reducible refine CT.out.mono ?_); rintro e1 w2 ⟨rfl, hb2⟩)
          go_ret
          have hRt : R = true := by
            rw [← HRR.out, show i.wt.any (fun v => touchF false v j.rd j.wt) = true from List.any_eq_true.2 ⟨x, List.mem_of_getElem? HX.out, HTT.out⟩]; rfl
          exact ⟨by rw [hRt]; rfl, below_then HW1.out (below_then HBR.out hb2)⟩
        | false =>
          go_wp2_with (go_at_call 57; (with_reducible refine CT.out.mono ?_); rintro e1 w2 ⟨rfl, hb2⟩)
          go_roundw
          case rel => exact ⟨k + 1, by omega, rfl, Lib.hid (by show _ = _; rw [take_snoc' HX.out, List.any_append, HK.out]; simp [HTT.out]), Lib.hid (below_then HBR.out hb2)⟩
          case measure => simp [intOf]; omega
      · obtain rfl : k = ci := by omega
        have hlo : ¬ (k : Int) < (k : Int) := by omega
        have HF1 : Hid (i.wt.any (fun v => touchF false v j.rd j.wt) = false) := by have := HK.out; rw [← H2.out, List.take_length] at this; exact this
        obtain ⟨-, b1⟩ := (Box.keep BB1.out HBR.out).c2
        clear HK hk
        go_upto_region 12 with fail
        obtain ⟨wo, hwo⟩ : ∃ wo : World, wo = wr := ⟨_, rfl⟩
        go_loopw [47] (fun x wr2 => ∃ m : Nat, m ≤ c' ∧ x = .int .i64 m ∧ Hid ((j.wt.take m).any (fun v => touchF false v i.rd i.wt) = false) ∧ Hid (Below W1.heap.size W1 wr2)) (fun x _ => c' - (intOf x).toNat)
        case atStart => exact ⟨0, Nat.zero_le _, rfl, Lib.hid rfl, HBR⟩
        case round =>
          clear HBR
          obtain ⟨m, hm, rfl, HM, HBR⟩ := hrel
          by_cases hlt2 : m < c'
          · obtain ⟨ad, x, rfl, hba, hx, hc, i1, i2⟩ := ((HT'.out.grow HW1.out).grow HBR.out).at_ (k := m) (by rw [H4.out]; exact hlt2)
            have q1 : (0 : Int) ≤ (m : Int) := by omega
            have q2 : (m : Int) < (c' : Int) := by omega
            have wk : IntKind.i64.wrap ((m : Int) + 1) = ((m + 1 : Nat) : Int) := (IntWalk.i64_in _ (by omega)).trans (by omega)
            have HX := Lib.hid hx
            obtain ⟨T, hT⟩ : ∃ T, touchF false x i.rd i.wt = T := ⟨_, rfl⟩
            have CT := Lib.hid (HTR.out x B C i.rd i.wt ai bi' k di _ HBR.out ((HR.out.grow HW1.out).grow HBR.out) ((HT.out.grow HW1.out).grow HBR.out) H1.out H2.out (by omega) (by omega))
            rw [hT] at CT
            have HTT := Lib.hid hT
            obtain ⟨a0, a1⟩ := (Box.keep BA1.out HBR.out).c2
            clear hx hba hT
            cases T with
            | true =>
              go_wp2_with (go_at_call 57; (with_reducible refine CT.out.mono ?_); rintro e1 w2 ⟨rfl, hb2⟩)
              go_ret
              have hRt : R = true := by
                rw [← HRR.out, show j.wt.any (fun v => touchF false v i.rd i.wt) = true from List.any_eq_true.2 ⟨x, List.mem_of_getElem? HX.out, HTT.out⟩]; simp
              exact ⟨by rw [hRt]; rfl, below_then HW1.out (below_then HBR.out hb2)⟩
            | false =>
              go_wp2_with (go_at_call 57; (with_reducible refine CT.out.mono ?_); rintro e1 w2 ⟨rfl, hb2⟩)
              go_roundw
              case rel => exact ⟨m + 1, by omega, rfl, Lib.hid (by show _ = _; rw [take_snoc' HX.out, List.any_append, HM.out]; simp [HTT.out]), Lib.hid (below_then HBR.out hb2)⟩
              case measure => simp [intOf]; omega
          · obtain rfl : m = c' := by omega
            have hlo2 : ¬ (m : Int) < (m : Int) := by omega
            have hRf : R = false := by
              have := HM.out
              rw [← H4.out, List.take_length] at this
              rw [← HRR.out, HF1.out, this]; rfl
            have HRF := Lib.hid hRf
            clear hRf
            go_wp2_with fail
            go_ret
            exact ⟨by rw [HRF.out]; rfl, below_then HW1.out HBR.out⟩
  | true =>
    have hs : s = sj := hs.symm
    subst hs
    go_upto_region 5 with (first
      | (go_at_call 56; first | ((with_reducible refine (C1.out _).mono ?_); rintro e1 w1 ⟨rfl, rfl⟩) | ((with_reducible refine (C2.out _).mono ?_); rintro e1 w1 ⟨rfl, rfl⟩))
      | ((with_reducible show wpList _ _ _ (Oper.mk _ (.store _ _ _) _ _ _ _ :: _) _ _); refine wp_st1 (w := W0.alloc (.cells #[.bool false] 4)) (vs := [.bool false]) (vs' := [.bool s]) rfl _ _ _ rfl W0.heap.size 0 (.bool s) rfl rfl size_bool rfl rfl (Box.new rfl) (by simp) rfl ?_; intro W1 b1 p1))
    have hb1 := put_facts ((Below.refl W0.heap.size W0).alloc (Nat.le_refl _) (.cells #[.bool false] 4)) (Nat.le_refl _) p1
    have HW1 := Lib.hid (below_then HB0.out hb1)
    have BA1 := Lib.hid (Box.keep BA.out hb1)
    have BB1 := Lib.hid (Box.keep BB.out hb1)
    have B1 := Lib.hid b1
    generalize W0.heap.size = q at B1 ⊢
    clear hb1 p1 b1 BA BB BI BJ HB0 C1 C2
    have HTR : Hid (∀ (v : Int) (B C : Option Addr) (r t : List Int) (n c m d : Nat) (w2 : World), Below W1.heap.size W1 w2 → Ints w2 B r → Ints w2 C t → r.length = n → t.length = m → n ≤ 1000 → m ≤ 1000 → Calls Tryd.prog 57 #[.int .i64 v, useV B n c C m d, .pointer (some ⟨q, 0, none⟩)] w2 fun e w' => e = .returned (.bool (touchF s v r t)) ∧ Below w2.heap.size w2 w') := fun v B C r t n c m d w2 hb h1 h2 h3 h4 h5 h6 => sc_touches s v B C r t n c m d q w2 (Nat.lt_of_lt_of_le B1.out.1 hb.size) ((hb.cell (p := ⟨q, 0, none⟩) B1.out.1).trans (B1.out.2.1 0)) h1 h2 h3 h4 h5 h6
    obtain ⟨-, a1⟩ := BA1.out.c2
    go_upto_region 6 with fail
    go_loopw [35] (fun x wr => ∃ k : Nat, k ≤ ci ∧ x = .int .i64 k ∧ Hid ((i.wt.take k).any (fun v => touchF s v j.rd j.wt) = false) ∧ Hid (Below W1.heap.size W1 wr)) (fun x _ => ci - (intOf x).toNat)
    case atStart => exact ⟨0, Nat.zero_le _, rfl, Lib.hid rfl, Lib.hid (Below.refl _ _)⟩
    case round =>
      obtain ⟨k, hk, rfl, HK, HBR⟩ := hrel
      by_cases hlt : k < ci
      · obtain ⟨ad, x, rfl, hba, hx, hc, i1, i2⟩ := ((HT.out.grow HW1.out).grow HBR.out).at_ (k := k) (by rw [H2.out]; exact hlt)
        have q1 : (0 : Int) ≤ (k : Int) := by omega
        have q2 : (k : Int) < (ci : Int) := by omega
        have wk : IntKind.i64.wrap ((k : Int) + 1) = ((k + 1 : Nat) : Int) := (IntWalk.i64_in _ (by omega)).trans (by omega)
        have HX := Lib.hid hx
        obtain ⟨T, hT⟩ : ∃ T, touchF s x j.rd j.wt = T := ⟨_, rfl⟩
        have CT := Lib.hid (HTR.out x B' C' j.rd j.wt a' b' c' d' wr HBR.out ((HR'.out.grow HW1.out).grow HBR.out) ((HT'.out.grow HW1.out).grow HBR.out) H3.out H4.out (by omega) (by omega))
        rw [hT] at CT
        have HTT := Lib.hid hT
        obtain ⟨b0, b1⟩ := (Box.keep BB1.out HBR.out).c2
        clear hx hba hT
        cases T with
        | true =>
          go_wp2_with (go_at_call 57; (with_reducible refine CT.out.mono ?_); rintro e1 w2 ⟨rfl, hb2⟩)
          go_ret
          have hRt : R = true := by
            rw [← HRR.out, show i.wt.any (fun v => touchF s v j.rd j.wt) = true from List.any_eq_true.2 ⟨x, List.mem_of_getElem? HX.out, HTT.out⟩]; rfl
          exact ⟨by rw [hRt]; rfl, below_then HW1.out (below_then HBR.out hb2)⟩
        | false =>
          go_wp2_with (go_at_call 57; (with_reducible refine CT.out.mono ?_); rintro e1 w2 ⟨rfl, hb2⟩)
          go_roundw
          case rel => exact ⟨k + 1, by omega, rfl, Lib.hid (by show _ = _; rw [take_snoc' HX.out, List.any_append, HK.out]; simp [HTT.out]), Lib.hid (below_then HBR.out hb2)⟩
          case measure => simp [intOf]; omega
      · obtain rfl : k = ci := by omega
        have hlo : ¬ (k : Int) < (k : Int) := by omega
        have HF1 : Hid (i.wt.any (fun v => touchF s v j.rd j.wt) = false) := by have := HK.out; rw [← H2.out, List.take_length] at this; exact this
        obtain ⟨-, b1⟩ := (Box.keep BB1.out HBR.out).c2
        clear HK hk
        go_upto_region 12 with fail
        obtain ⟨wo, hwo⟩ : ∃ wo : World, wo = wr := ⟨_, rfl⟩
        go_loopw [47] (fun x wr2 => ∃ m : Nat, m ≤ c' ∧ x = .int .i64 m ∧ Hid ((j.wt.take m).any (fun v => touchF s v i.rd i.wt) = false) ∧ Hid (Below W1.heap.size W1 wr2)) (fun x _ => c' - (intOf x).toNat)
        case atStart => exact ⟨0, Nat.zero_le _, rfl, Lib.hid rfl, HBR⟩
        case round =>
          clear HBR
          obtain ⟨m, hm, rfl, HM, HBR⟩ := hrel
          by_cases hlt2 : m < c'
          · obtain ⟨ad, x, rfl, hba, hx, hc, i1, i2⟩ := ((HT'.out.grow HW1.out).grow HBR.out).at_ (k := m) (by rw [H4.out]; exact hlt2)
            have q1 : (0 : Int) ≤ (m : Int) := by omega
            have q2 : (m : Int) < (c' : Int) := by omega
            have wk : IntKind.i64.wrap ((m : Int) + 1) = ((m + 1 : Nat) : Int) := (IntWalk.i64_in _ (by omega)).trans (by omega)
            have HX := Lib.hid hx
            obtain ⟨T, hT⟩ : ∃ T, touchF s x i.rd i.wt = T := ⟨_, rfl⟩
            have CT := Lib.hid (HTR.out x B C i.rd i.wt ai bi' k di _ HBR.out ((HR.out.grow HW1.out).grow HBR.out) ((HT.out.grow HW1.out).grow HBR.out) H1.out H2.out (by omega) (by omega))
            rw [hT] at CT
            have HTT := Lib.hid hT
            obtain ⟨a0, a1⟩ := (Box.keep BA1.out HBR.out).c2
            clear hx hba hT
            cases T with
            | true =>
              go_wp2_with (go_at_call 57; (with_reducible refine CT.out.mono ?_); rintro e1 w2 ⟨rfl, hb2⟩)
              go_ret
              have hRt : R = true := by
                rw [← HRR.out, show j.wt.any (fun v => touchF s v i.rd i.wt) = true from List.any_eq_true.2 ⟨x, List.mem_of_getElem? HX.out, HTT.out⟩]; simp
              exact ⟨by rw [hRt]; rfl, below_then HW1.out (below_then HBR.out hb2)⟩
            | false =>
              go_wp2_with (go_at_call 57; (with_reducible refine CT.out.mono ?_); rintro e1 w2 ⟨rfl, hb2⟩)
              go_roundw
              case rel => exact ⟨m + 1, by omega, rfl, Lib.hid (by show _ = _; rw [take_snoc' HX.out, List.any_append, HM.out]; simp [HTT.out]), Lib.hid (below_then HBR.out hb2)⟩
              case measure => simp [intOf]; omega
          · obtain rfl : m = c' := by omega
            have hlo2 : ¬ (m : Int) < (m : Int) := by omega
            have hRf : R = false := by
              have := HM.out
              rw [← H4.out, List.take_length] at this
              rw [← HRR.out, HF1.out, this]; rfl
            have HRF := Lib.hid hRf
            clear hRf
            go_wp2_with fail
            go_ret
            exact ⟨by rw [HRF.out]; rfl, below_then HW1.out HBR.out⟩
end Go.Proofs.YtpmbgcfnehplaaaDoor
