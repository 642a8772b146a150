/- Several texts in one: Zw Zx Zy Z1. -/
import Derived.Test.YtmdfgidejdiiiaalU3toZv
set_option linter.unusedVariables false
set_option linter.unusedSimpArgs false
section
namespace Go.Proofs.Ytmdfgidejdiiiaa
open Go.RowKit
theorem abs_facts {k : Int} (h : I64 k) : ∃ t : Int, (if k < 0 then -k else k) = t ∧ 0 ≤ t ∧ t < 18446744073709551616 ∧ (k < 0 → t = -k) ∧ (0 ≤ k → t = k) := by
  unfold I64 at h
  refine ⟨_, rfl, ?_, ?_, ?_, ?_⟩ <;> split <;> omega
set_option maxRecDepth 100000 in
set_option maxHeartbeats 4000000 in
theorem it_Of (k : Int) (w : World) (hk : I64 k) : Calls Try.prog 91 #[.int .i64 k] w (RetI w k 2) := by
  obtain ⟨t, -, t0, t1, tn, tp⟩ := abs_facts hk
  unfold I64 at hk
  have z1 : 0 ≤ t % 4294967296 ∧ t % 4294967296 < 4294967296 := by omega
  have z2 : 0 ≤ t / 4294967296 ∧ t / 4294967296 < 4294967296 := by omega
  have HT := Lib.hid (And.intro tn tp)
  by_cases hn : k < 0
  · have hw : IntKind.u64.wrap (-IntKind.u64.wrap k) = t := by rw [wrapU, wrapU, tn hn]; omega
    clear tn tp
    go_enter Try.func91, Try.ntmps91
    go_upto_region 4 with fail
    have hB : Below w.heap.size w (w.alloc (.cells #[.bool false, .slice none 0 0] 26)) := (Below.refl _ _).alloc (Nat.le_refl _) _
    have b3 : Box (w.alloc (.cells #[.bool false, .slice none 0 0] 26)) w.heap.size [.bool false, .slice none 0 0] := Box.new rfl
    generalize w.alloc (.cells #[.bool false, .slice none 0 0] 26) = wA at hB b3 ⊢
    have hb1 := (Below.refl wA.heap.size wA).alloc (Nat.le_refl _) (.cells #[.int .u32 (t % 4294967296), .int .u32 (t / 4294967296)] 77)
    have CT : Hid (Calls Try.prog 120 #[.slice (some ⟨wA.heap.size, 0, none⟩) 2 2] (wA.alloc (.cells #[.int .u32 (t % 4294967296), .int .u32 (t / 4294967296)] 77)) (RetN (wA.alloc (.cells #[.int .u32 (t % 4294967296), .int .u32 (t / 4294967296)] 77)) (nv [t % 4294967296, t / 4294967296]) 2)) := Lib.hid (nt_Trim _ 2 2 [t % 4294967296, t / 4294967296] _ (digA_two z1 z2).digA rfl (Nat.le_refl _) (by omega))
    rw [show nv [t % 4294967296, t / 4294967296] = t by simp only [nv]; omega] at CT
    have HA := Lib.hid (And.intro hB (And.intro b3 hb1))
    clear hB b3 hb1
    go_wp2_with (first
      | (go_at_call 120; (with_reducible refine CT.out.mono ?_); intro e1 w1 h1; obtain ⟨v1, rfl, ⟨A1, c1, l1, rfl, o1, n1, m1, k1⟩, hb2⟩ := h1.num (b := wA.heap.size) HA.out.2.2.size; have HO1 := Lib.hid (And.intro o1 (And.intro n1 (And.intro m1 k1))); have HB2 := Lib.hid (below_then HA.out.2.2 hb2); clear o1 n1 m1 k1 hb2)
      | (go_at_call 114; (with_reducible refine (it_signed _ _ _ _ _).mono ?_); rintro e2 w2 ⟨rfl, hb3⟩; have HB3 := Lib.hid hb3; clear hb3)
      | ((with_reducible show wpList _ _ _ (Oper.mk none (.store 26 _ _) _ _ _ _ :: _) _ _); refine wp_st rfl 26 _ _ rfl w.heap.size 0 [_, _] rfl rfl size_Int rfl ((HA.out.2.1.keep HB2.out).keep HB3.out) (Nat.le_refl _) rfl ?_; intro W9 c9 g9))
    have hb9 := below_then (below_then HA.out.1 HB2.out) HB3.out
    have hW := put_facts (g := w.heap.size) hb9 (Nat.le_refl _) g9
    have ho := ((HO1.out.1.grow HB3.out).away g9 HA.out.2.1.1).base (base' := w.heap.size) HA.out.1.size
    obtain ⟨dsc, hd1, hd2⟩ := row_Int
    refine bodyPost_ret (resC rfl _ _ W9 (g := w.heap.size) rfl (res_box 26 c9 dsc hd1 hd2 size_Int)) rfl ?_
    exact ⟨_, rfl, ⟨_, A1, c1, l1, rfl, ho, HO1.out.2.2.1, HO1.out.2.2.2, by rw [← Bool.true_and (decide (0 < l1.length)), sgn_len HO1.out.2.2.1 ho.dig, HO1.out.2.1]; have := HT.out.1 hn; simp [sgn]; omega⟩, hW⟩
  · have hw : IntKind.u64.wrap k = t := by rw [wrapU, tp (by omega)]; omega
    clear tn tp
    go_enter Try.func91, Try.ntmps91
    go_upto_region 4 with fail
    have hB : Below w.heap.size w (w.alloc (.cells #[.bool false, .slice none 0 0] 26)) := (Below.refl _ _).alloc (Nat.le_refl _) _
    have b3 : Box (w.alloc (.cells #[.bool false, .slice none 0 0] 26)) w.heap.size [.bool false, .slice none 0 0] := Box.new rfl
    generalize w.alloc (.cells #[.bool false, .slice none 0 0] 26) = wA at hB b3 ⊢
    have hb1 := (Below.refl wA.heap.size wA).alloc (Nat.le_refl _) (.cells #[.int .u32 (t % 4294967296), .int .u32 (t / 4294967296)] 77)
    have CT : Hid (Calls Try.prog 120 #[.slice (some ⟨wA.heap.size, 0, none⟩) 2 2] (wA.alloc (.cells #[.int .u32 (t % 4294967296), .int .u32 (t / 4294967296)] 77)) (RetN (wA.alloc (.cells #[.int .u32 (t % 4294967296), .int .u32 (t / 4294967296)] 77)) (nv [t % 4294967296, t / 4294967296]) 2)) := Lib.hid (nt_Trim _ 2 2 [t % 4294967296, t / 4294967296] _ (digA_two z1 z2).digA rfl (Nat.le_refl _) (by omega))
    rw [show nv [t % 4294967296, t / 4294967296] = t by simp only [nv]; omega] at CT
    have HA := Lib.hid (And.intro hB (And.intro b3 hb1))
    clear hB b3 hb1
    go_wp2_with (first
      | (go_at_call 120; (with_reducible refine CT.out.mono ?_); intro e1 w1 h1; obtain ⟨v1, rfl, ⟨A1, c1, l1, rfl, o1, n1, m1, k1⟩, hb2⟩ := h1.num (b := wA.heap.size) HA.out.2.2.size; have HO1 := Lib.hid (And.intro o1 (And.intro n1 (And.intro m1 k1))); have HB2 := Lib.hid (below_then HA.out.2.2 hb2); clear o1 n1 m1 k1 hb2)
      | (go_at_call 114; (with_reducible refine (it_signed _ _ _ _ _).mono ?_); rintro e2 w2 ⟨rfl, hb3⟩; have HB3 := Lib.hid hb3; clear hb3)
      | ((with_reducible show wpList _ _ _ (Oper.mk none (.store 26 _ _) _ _ _ _ :: _) _ _); refine wp_st rfl 26 _ _ rfl w.heap.size 0 [_, _] rfl rfl size_Int rfl ((HA.out.2.1.keep HB2.out).keep HB3.out) (Nat.le_refl _) rfl ?_; intro W9 c9 g9))
    have hb9 := below_then (below_then HA.out.1 HB2.out) HB3.out
    have hW := put_facts (g := w.heap.size) hb9 (Nat.le_refl _) g9
    have ho := ((HO1.out.1.grow HB3.out).away g9 HA.out.2.1.1).base (base' := w.heap.size) HA.out.1.size
    obtain ⟨dsc, hd1, hd2⟩ := row_Int
    refine bodyPost_ret (resC rfl _ _ W9 (g := w.heap.size) rfl (res_box 26 c9 dsc hd1 hd2 size_Int)) rfl ?_
    exact ⟨_, rfl, ⟨_, A1, c1, l1, rfl, ho, HO1.out.2.2.1, HO1.out.2.2.2, by show sgn false (nv l1) = k; rw [show sgn false (nv l1) = nv l1 from rfl, HO1.out.2.1]; exact HT.out.2 (by omega)⟩, hW⟩
end Go.Proofs.Ytmdfgidejdiiiaa
end
section
namespace Go.Proofs.Ytmdfgidejdiiiaa
open Go.RowKit
theorem size_Rat : (Try.prog.info? 28).map (·.size) = some 3 := by kernel_rfl
theorem row_Rat : ∃ d, Try.prog.underlying 28 = some d ∧ d.isRow = true := ⟨_, Try.underlying28, rfl⟩
def RetWh (w : World) (neg : Bool) (A : Option Addr) (n c : Nat) (e : Ending) (w' : World) : Prop := ∃ g, e = .returned (.agg #[.bool neg, .slice A n c, .slice (some ⟨g, 0, none⟩) 1 1]) ∧ OwG w.heap.size w' (.slice (some ⟨g, 0, none⟩) 1 1) [1] ∧ Below w.heap.size w w'
theorem rt_whole (neg : Bool) (A : Option Addr) (n c : Nat) (w : World) : Calls Try.prog 88 #[.agg #[.bool neg, .slice A n c]] w (RetWh w neg A n c) := by
  go_enter Try.func88, Try.ntmps88
  go_wp2_with fail
  obtain ⟨dsc, hd1, hd2⟩ := row_Rat
  obtain ⟨W1, hW1⟩ : ∃ W, W = (w.alloc (.cells #[.bool neg, .slice A n c] 26)).alloc (.cells #[.bool neg, .slice A n c, .slice (some ⟨w.heap.size + 1 + 1, 0, none⟩) 1 1] 28) := ⟨_, rfl⟩
  have hs : W1.heap.size = w.heap.size + 1 + 1 := by rw [hW1]; simp
  have hb : Below w.heap.size w W1 := by rw [hW1]; exact ((Below.refl _ _).alloc (Nat.le_refl _) _).alloc (by simp) _
  have b2 : Box W1 (w.heap.size + 1) [.bool neg, .slice A n c, .slice (some ⟨w.heap.size + 1 + 1, 0, none⟩) 1 1] := by rw [hW1]; exact Box.new (by simp)
  have ho := digA_one (w := W1) (x := 1) (by omega)
  rw [hs] at ho
  refine bodyPost_ret (resC rfl _ _ _ (g := w.heap.size + 1) rfl (res_box 28 (?_ : Box _ (w.heap.size + 1) [.bool neg, .slice A n c, .slice (some ⟨w.heap.size + 1 + 1, 0, none⟩) 1 1]) dsc hd1 hd2 size_Rat)) rfl ?_
  · rw [← hW1]; exact b2.alloc _
  · rw [← hW1]; exact ⟨_, rfl, ho.base (by omega), hb.alloc hb.size _⟩
def RatO (b : Nat) (w : World) (v : Value) (p q : Int) (K M : Nat) : Prop := ∃ neg A c l B d r, v = .agg #[.bool neg, .slice A l.length c, .slice B r.length d] ∧ (OwG b w (.slice A l.length c) l ∧ l.length ≤ K ∧ sgn neg (nv l) = p) ∧ (OwG b w (.slice B r.length d) r ∧ r.length ≤ M ∧ nv r = q)
def RetR (w : World) (p q : Int) (K M : Nat) (e : Ending) (w' : World) : Prop := ∃ v, e = .returned v ∧ RatO w.heap.size w' v p q K M ∧ Below w.heap.size w w'
theorem rt_Of (k : Int) (w : World) (hk : I64 k) : Calls Try.prog 43 #[.int .i64 k] w (RetR w k 1 2 1) := by
  have CO : Hid (∀ w1, Calls Try.prog 91 #[.int .i64 k] w1 (RetI w1 k 2)) := Lib.hid fun w1 => it_Of k w1 hk
  unfold I64 at hk
  go_enter Try.func43, Try.ntmps43
  go_upto_region 1 with fail
  have hB : Below w.heap.size w (w.alloc (.cells #[.bool false, .slice none 0 0, .slice none 0 0] 28)) := (Below.refl _ _).alloc (Nat.le_refl _) _
  have b3 : Box (w.alloc (.cells #[.bool false, .slice none 0 0, .slice none 0 0] 28)) w.heap.size [.bool false, .slice none 0 0, .slice none 0 0] := Box.new rfl
  generalize w.alloc (.cells #[.bool false, .slice none 0 0, .slice none 0 0] 28) = wA at hB b3 ⊢
  have HA := Lib.hid (And.intro hB b3)
  clear hB b3
  go_wp2_with (first
    | (go_at_call 91; (with_reducible refine (CO.out _).mono ?_); rintro e1 w1 ⟨v1, rfl, ⟨ng, A1, c1, l1, rfl, o1, m1, k1, s1⟩, hb1⟩; have HO := Lib.hid (And.intro o1 (And.intro k1 s1)); have HB1 := Lib.hid hb1; clear o1 m1 k1 s1 hb1)
    | (go_at_call 88; (with_reducible refine (rt_whole _ _ _ _ _).mono ?_); rintro e2 w2 ⟨g2, rfl, o2, hb2⟩; have HO2 := Lib.hid o2; have HB2 := Lib.hid hb2; clear o2 hb2)
    | ((with_reducible show wpList _ _ _ (Oper.mk none (.store 28 _ _) _ _ _ _ :: _) _ _); refine wp_st rfl 28 _ _ rfl w.heap.size 0 [_, _, _] rfl rfl size_Rat rfl ((HA.out.2.keep HB1.out).keep HB2.out) (Nat.le_refl _) rfl ?_; intro W9 c9 g9))
  have hW := put_facts (g := w.heap.size) (below_then (below_then HA.out.1 HB1.out) HB2.out) (Nat.le_refl _) g9
  have h1 := ((HO.out.1.grow HB2.out).away g9 HA.out.2.1).base (base' := w.heap.size) HA.out.1.size
  have h2 := (HO2.out.away g9 (Nat.lt_of_lt_of_le HA.out.2.1 HB1.out.size)).base (base' := w.heap.size) (Nat.le_trans HA.out.1.size HB1.out.size)
  obtain ⟨dsc, hd1, hd2⟩ := row_Rat
  refine bodyPost_ret (resC rfl _ _ W9 (g := w.heap.size) rfl (res_box 28 c9 dsc hd1 hd2 size_Rat)) rfl ?_
  exact ⟨_, rfl, ⟨ng, A1, c1, l1, _, 1, [1], rfl, ⟨h1, HO.out.2.1, HO.out.2.2⟩, h2, Nat.le_refl _, rfl⟩, hW⟩
end Go.Proofs.Ytmdfgidejdiiiaa
end
section
namespace Go.Proofs.Ytmdfgidejdiiiaa
open Go.RowKit
theorem size_Num : (Try.prog.info? 113).map (·.size) = some 4 := by kernel_rfl
theorem row_Num : ∃ d, Try.prog.underlying 113 = some d ∧ d.isRow = true := ⟨_, Try.underlying113, rfl⟩
theorem rt_read_one (neg : Bool) (A B : Option Addr) (n c d : Nat) (w : World) (hB : DigA w B [1]) : Calls Try.prog 86 #[.agg #[.bool neg, .slice A n c, .slice B 1 d]] w (RetV w (.agg #[.bool neg, .slice A n c, .slice B 1 d, .bool true])) := by
  obtain ⟨bd, y, rfl, hbb, hy, hcy, _⟩ := hB.at_ (k := 0) (by simp)
  rw [show bd.add 0 = bd from rfl] at hcy
  simp at hy
  subst hy
  go_enter Try.func86, Try.ntmps86
  go_upto_region 1 with fail
  have hB0 : Below w.heap.size w ((w.alloc (.cells #[.bool neg, .slice A n c, .slice (some bd) 1 d] 28)).alloc (.cells #[.bool false, .slice none 0 0, .slice none 0 0, .bool false] 113)) := ((Below.refl _ _).alloc (Nat.le_refl _) _).alloc (by simp) _
  have hc2 := (hB0.cell hbb).trans hcy
  clear hcy hbb hB hB0
  go_wp2_with fail
  obtain ⟨dsc, hd1, hd2⟩ := row_Num
  refine bodyPost_ret (resC rfl _ _ _ (g := w.heap.size + 1) rfl (res_box 113 (Box.new (by simp)) dsc hd1 hd2 size_Num)) rfl ?_
  exact ⟨rfl, ((Below.refl _ _).alloc (Nat.le_refl _) _).alloc (by simp) _⟩
theorem rt_read_big (neg : Bool) (A B : Option Addr) (n c m d : Nat) (r : List Int) (w : World) (hB : DigA w B r) (hm : r.length = m) (hd : m ≤ d) (h9 : m ≤ 1000000) (h1 : m ≠ 1) (h0 : nv r ≠ 0) : Calls Try.prog 86 #[.agg #[.bool neg, .slice A n c, .slice B m d]] w (RetV w (.agg #[.bool neg, .slice A n c, .slice B m d, .bool false])) := by
  have CQ : Hid (∀ w1, Below w.heap.size w w1 → Calls Try.prog 95 #[.slice B m d, .slice none 0 0] w1 fun e w' => e = .returned (.int .i64 1) ∧ Below w1.heap.size w1 w') := Lib.hid fun w1 h => by
    have e : cmpI (nv r) 0 = 1 := by have := nv_low hB.dig; unfold cmpI; rw [if_neg (by omega), if_neg h0]
    have := nt_Compare B none m 0 d 0 r [] w1 (hB.grow h) DigA.nil hm rfl hd (Nat.le_refl _) (by omega) (by omega)
    rw [show nv [] = 0 from rfl, e] at this
    exact this
  have h1' : (m : Int) ≠ 1 := by omega
  clear hB hm h0
  go_enter Try.func86, Try.ntmps86
  have hB0 : Below w.heap.size w ((w.alloc (.cells #[.bool neg, .slice A n c, .slice B m d] 28)).alloc (.cells #[.bool false, .slice none 0 0, .slice none 0 0, .bool false] 113)) := ((Below.refl _ _).alloc (Nat.le_refl _) _).alloc (by simp) _
  have b1 : Box ((w.alloc (.cells #[.bool neg, .slice A n c, .slice B m d] 28)).alloc (.cells #[.bool false, .slice none 0 0, .slice none 0 0, .bool false] 113)) w.heap.size [.bool neg, .slice A n c, .slice B m d] := (Box.new rfl).alloc _
  have b2 : Box ((w.alloc (.cells #[.bool neg, .slice A n c, .slice B m d] 28)).alloc (.cells #[.bool false, .slice none 0 0, .slice none 0 0, .bool false] 113)) (w.heap.size + 1) [.bool false, .slice none 0 0, .slice none 0 0, .bool false] := Box.new (by simp)
  go_upto_region 3 with fail
  generalize (w.alloc (.cells #[.bool neg, .slice A n c, .slice B m d] 28)).alloc (.cells #[.bool false, .slice none 0 0, .slice none 0 0, .bool false] 113) = wA at hB0 b1 b2 ⊢
  have z3 : wA.cell? ⟨w.heap.size, 2, none⟩ = some (.slice B m d) := b1.2.1 2
  have HA := Lib.hid (And.intro hB0 (And.intro b1 b2))
  clear hB0 b1 b2
  obtain ⟨dI, hI1, hI2⟩ := row_Int
  have HI := Lib.hid (And.intro hI1 hI2)
  clear hI1 hI2
  go_wp2_with (first
    | (go_at_call 95; (with_reducible refine (CQ.out _ HA.out.1).mono ?_); rintro e1 w1 ⟨rfl, hb1⟩; have HB1 := Lib.hid hb1; have y3 : w1.cell? ⟨w.heap.size, 2, none⟩ = some (.slice B m d) := (HA.out.2.1.keep hb1).2.1 2; clear hb1)
    | ((with_reducible show wpList _ _ _ (Oper.mk _ (.load 26 _) _ _ _ _ :: _) _ _); refine wp_ld rfl 26 _ rfl w.heap.size 0 rfl (HA.out.2.1.keep HB1.out) [.bool neg, .slice A n c] (fun j v h => by rcases j with _ | _ | j <;> simp at h ⊢ <;> exact h) dI HI.out.1 HI.out.2 size_Int ?_)
    | ((with_reducible show wpList _ _ _ (Oper.mk none (.store 113 _ _) _ _ _ _ :: _) _ _); refine wp_st rfl 113 _ _ rfl (w.heap.size + 1) 0 [.bool neg, .slice A n c, .slice B m d, .bool false] rfl rfl size_Num rfl (HA.out.2.2.keep HB1.out) (Nat.le_refl _) rfl ?_; intro W9 c9 g9))
  have hW := put_facts (g := w.heap.size + 1) (below_then HA.out.1 HB1.out) (by omega) g9
  obtain ⟨dsc, hd1, hd2⟩ := row_Num
  refine bodyPost_ret (resC rfl _ _ W9 (g := w.heap.size + 1) rfl (res_box 113 c9 dsc hd1 hd2 size_Num)) rfl ?_
  exact ⟨rfl, hW⟩
def RetZ (w : World) (e : Ending) (w' : World) : Prop := ∃ g, e = .returned (.agg #[.bool false, .slice none 0 0, .slice (some ⟨g, 0, none⟩) 1 1, .bool true]) ∧ OwG w.heap.size w' (.slice (some ⟨g, 0, none⟩) 1 1) [1] ∧ Below w.heap.size w w'
theorem rt_read_zero (neg : Bool) (A B : Option Addr) (n c m d : Nat) (r : List Int) (w : World) (hB : DigA w B r) (hm : r.length = m) (hd : m ≤ d) (h9 : m ≤ 1000000) (h1 : m ≠ 1) (h0 : nv r = 0) : Calls Try.prog 86 #[.agg #[.bool neg, .slice A n c, .slice B m d]] w (RetZ w) := by
  have CQ : Hid (∀ w1, Below w.heap.size w w1 → Calls Try.prog 95 #[.slice B m d, .slice none 0 0] w1 fun e w' => e = .returned (.int .i64 0) ∧ Below w1.heap.size w1 w') := Lib.hid fun w1 h => by
    have := nt_Compare B none m 0 d 0 r [] w1 (hB.grow h) DigA.nil hm rfl hd (Nat.le_refl _) (by omega) (by omega)
    rw [show nv [] = 0 from rfl, h0, show cmpI 0 0 = 0 from rfl] at this
    exact this
  have h1' : (m : Int) ≠ 1 := by omega
  clear hB hm h0
  go_enter Try.func86, Try.ntmps86
  have hB0 : Below w.heap.size w ((w.alloc (.cells #[.bool neg, .slice A n c, .slice B m d] 28)).alloc (.cells #[.bool false, .slice none 0 0, .slice none 0 0, .bool false] 113)) := ((Below.refl _ _).alloc (Nat.le_refl _) _).alloc (by simp) _
  have b1 : Box ((w.alloc (.cells #[.bool neg, .slice A n c, .slice B m d] 28)).alloc (.cells #[.bool false, .slice none 0 0, .slice none 0 0, .bool false] 113)) w.heap.size [.bool neg, .slice A n c, .slice B m d] := (Box.new rfl).alloc _
  have b2 : Box ((w.alloc (.cells #[.bool neg, .slice A n c, .slice B m d] 28)).alloc (.cells #[.bool false, .slice none 0 0, .slice none 0 0, .bool false] 113)) (w.heap.size + 1) [.bool false, .slice none 0 0, .slice none 0 0, .bool false] := Box.new (by simp)
  go_upto_region 3 with fail
  generalize (w.alloc (.cells #[.bool neg, .slice A n c, .slice B m d] 28)).alloc (.cells #[.bool false, .slice none 0 0, .slice none 0 0, .bool false] 113) = wA at hB0 b1 b2 ⊢
  have z3 : wA.cell? ⟨w.heap.size, 2, none⟩ = some (.slice B m d) := b1.2.1 2
  have HA := Lib.hid (And.intro hB0 (And.intro b1 b2))
  clear hB0 b1 b2
  go_wp2_with (first
    | (go_at_call 95; (with_reducible refine (CQ.out _ HA.out.1).mono ?_); rintro e1 w1 ⟨rfl, hb1⟩; have HB1 := Lib.hid hb1; clear hb1)
    | ((with_reducible show wpList _ _ _ (Oper.mk none (.store 113 _ _) _ _ _ _ :: _) _ _); refine wp_st rfl 113 _ _ rfl (w.heap.size + 1) 0 [.bool false, .slice none 0 0, .slice (some ⟨w1.heap.size, 0, none⟩) 1 1, .bool true] rfl rfl size_Num rfl ((HA.out.2.2.keep HB1.out).alloc _) (Nat.le_refl _) rfl ?_; intro W9 c9 g9))
  have hb1 := below_then HA.out.1 HB1.out
  have hW := put_facts (g := w.heap.size + 1) (hb1.alloc hb1.size _) (by omega) g9
  have ho := ((digA_one (w := w1) (x := 1) (by omega)).away g9 (Nat.lt_of_lt_of_le HA.out.2.2.1 HB1.out.size)).base (base' := w.heap.size) hb1.size
  obtain ⟨dsc, hd1, hd2⟩ := row_Num
  refine bodyPost_ret (resC rfl _ _ W9 (g := w.heap.size + 1) rfl (res_box 113 c9 dsc hd1 hd2 size_Num)) rfl ?_
  exact ⟨_, rfl, ho, hW⟩
theorem rt_read_big1 (neg : Bool) (A B : Option Addr) (n c m d : Nat) (r : List Int) (w : World) (hB : DigA w B r) (hm : r.length = m) (hd : m ≤ d) (h9 : m ≤ 1000000) (hm1 : m = 1) (h1 : r ≠ [1]) (h0 : nv r ≠ 0) : Calls Try.prog 86 #[.agg #[.bool neg, .slice A n c, .slice B m d]] w (RetV w (.agg #[.bool neg, .slice A n c, .slice B m d, .bool false])) := by
  have CQ : Hid (∀ w1, Below w.heap.size w w1 → Calls Try.prog 95 #[.slice B m d, .slice none 0 0] w1 fun e w' => e = .returned (.int .i64 1) ∧ Below w1.heap.size w1 w') := Lib.hid fun w1 h => by
    have e : cmpI (nv r) 0 = 1 := by have := nv_low hB.dig; unfold cmpI; rw [if_neg (by omega), if_neg h0]
    have := nt_Compare B none m 0 d 0 r [] w1 (hB.grow h) DigA.nil hm rfl hd (Nat.le_refl _) (by omega) (by omega)
    rw [show nv [] = 0 from rfl, e] at this
    exact this
  subst hm1
  obtain ⟨y, rfl⟩ := nv_len1 hm
  obtain ⟨bd, y', rfl, hbb, hy, hcy, _⟩ := hB.at_ (k := 0) (by simp)
  rw [show bd.add 0 = bd from rfl] at hcy
  simp at hy
  subst hy
  have h1' : (y == 1) = false := by simpa using h1
  have h1'' : y ≠ 1 := by simpa using h1
  clear hB hm h0 h1
  go_enter Try.func86, Try.ntmps86
  have hB0 : Below w.heap.size w ((w.alloc (.cells #[.bool neg, .slice A n c, .slice (some bd) 1 d] 28)).alloc (.cells #[.bool false, .slice none 0 0, .slice none 0 0, .bool false] 113)) := ((Below.refl _ _).alloc (Nat.le_refl _) _).alloc (by simp) _
  have b1 : Box ((w.alloc (.cells #[.bool neg, .slice A n c, .slice (some bd) 1 d] 28)).alloc (.cells #[.bool false, .slice none 0 0, .slice none 0 0, .bool false] 113)) w.heap.size [.bool neg, .slice A n c, .slice (some bd) 1 d] := (Box.new rfl).alloc _
  have b2 : Box ((w.alloc (.cells #[.bool neg, .slice A n c, .slice (some bd) 1 d] 28)).alloc (.cells #[.bool false, .slice none 0 0, .slice none 0 0, .bool false] 113)) (w.heap.size + 1) [.bool false, .slice none 0 0, .slice none 0 0, .bool false] := Box.new (by simp)
  have hc2 := (hB0.cell hbb).trans hcy
  clear hcy hbb
  go_upto_region 3 with fail
  clear hc2
  generalize (w.alloc (.cells #[.bool neg, .slice A n c, .slice (some bd) 1 d] 28)).alloc (.cells #[.bool false, .slice none 0 0, .slice none 0 0, .bool false] 113) = wA at hB0 b1 b2 ⊢
  have z3 : wA.cell? ⟨w.heap.size, 2, none⟩ = some (.slice (some bd) 1 d) := b1.2.1 2
  have HA := Lib.hid (And.intro hB0 (And.intro b1 b2))
  clear hB0 b1 b2
  obtain ⟨dI, hI1, hI2⟩ := row_Int
  have HI := Lib.hid (And.intro hI1 hI2)
  clear hI1 hI2
  go_wp2_with (first
    | (go_at_call 95; (with_reducible refine (CQ.out _ HA.out.1).mono ?_); rintro e1 w1 ⟨rfl, hb1⟩; have HB1 := Lib.hid hb1; have y3 : w1.cell? ⟨w.heap.size, 2, none⟩ = some (.slice (some bd) 1 d) := (HA.out.2.1.keep hb1).2.1 2; clear hb1)
    | ((with_reducible show wpList _ _ _ (Oper.mk _ (.load 26 _) _ _ _ _ :: _) _ _); refine wp_ld rfl 26 _ rfl w.heap.size 0 rfl (HA.out.2.1.keep HB1.out) [.bool neg, .slice A n c] (fun j v h => by rcases j with _ | _ | j <;> simp at h ⊢ <;> exact h) dI HI.out.1 HI.out.2 size_Int ?_)
    | ((with_reducible show wpList _ _ _ (Oper.mk none (.store 113 _ _) _ _ _ _ :: _) _ _); refine wp_st rfl 113 _ _ rfl (w.heap.size + 1) 0 [.bool neg, .slice A n c, .slice (some bd) 1 d, .bool false] rfl rfl size_Num rfl (HA.out.2.2.keep HB1.out) (Nat.le_refl _) rfl ?_; intro W9 c9 g9))
  have hW := put_facts (g := w.heap.size + 1) (below_then HA.out.1 HB1.out) (by omega) g9
  obtain ⟨dsc, hd1, hd2⟩ := row_Num
  refine bodyPost_ret (resC rfl _ _ W9 (g := w.heap.size + 1) rfl (res_box 113 c9 dsc hd1 hd2 size_Num)) rfl ?_
  exact ⟨rfl, hW⟩
theorem rt_read_zero1 (neg : Bool) (A B : Option Addr) (n c m d : Nat) (r : List Int) (w : World) (hB : DigA w B r) (hm : r.length = m) (hd : m ≤ d) (h9 : m ≤ 1000000) (hm1 : m = 1) (h1 : r ≠ [1]) (h0 : nv r = 0) : Calls Try.prog 86 #[.agg #[.bool neg, .slice A n c, .slice B m d]] w (RetZ w) := by
  have CQ : Hid (∀ w1, Below w.heap.size w w1 → Calls Try.prog 95 #[.slice B m d, .slice none 0 0] w1 fun e w' => e = .returned (.int .i64 0) ∧ Below w1.heap.size w1 w') := Lib.hid fun w1 h => by
    have := nt_Compare B none m 0 d 0 r [] w1 (hB.grow h) DigA.nil hm rfl hd (Nat.le_refl _) (by omega) (by omega)
    rw [show nv [] = 0 from rfl, h0, show cmpI 0 0 = 0 from rfl] at this
    exact this
  subst hm1
  obtain ⟨y, rfl⟩ := nv_len1 hm
  obtain ⟨bd, y', rfl, hbb, hy, hcy, _⟩ := hB.at_ (k := 0) (by simp)
  rw [show bd.add 0 = bd from rfl] at hcy
  simp at hy
  subst hy
  have h1' : (y == 1) = false := by simpa using h1
  have h1'' : y ≠ 1 := by simpa using h1
  clear hB hm h0 h1
  go_enter Try.func86, Try.ntmps86
  have hB0 : Below w.heap.size w ((w.alloc (.cells #[.bool neg, .slice A n c, .slice (some bd) 1 d] 28)).alloc (.cells #[.bool false, .slice none 0 0, .slice none 0 0, .bool false] 113)) := ((Below.refl _ _).alloc (Nat.le_refl _) _).alloc (by simp) _
  have b1 : Box ((w.alloc (.cells #[.bool neg, .slice A n c, .slice (some bd) 1 d] 28)).alloc (.cells #[.bool false, .slice none 0 0, .slice none 0 0, .bool false] 113)) w.heap.size [.bool neg, .slice A n c, .slice (some bd) 1 d] := (Box.new rfl).alloc _
  have b2 : Box ((w.alloc (.cells #[.bool neg, .slice A n c, .slice (some bd) 1 d] 28)).alloc (.cells #[.bool false, .slice none 0 0, .slice none 0 0, .bool false] 113)) (w.heap.size + 1) [.bool false, .slice none 0 0, .slice none 0 0, .bool false] := Box.new (by simp)
  have hc2 := (hB0.cell hbb).trans hcy
  clear hcy hbb
  go_upto_region 3 with fail
  clear hc2
  generalize (w.alloc (.cells #[.bool neg, .slice A n c, .slice (some bd) 1 d] 28)).alloc (.cells #[.bool false, .slice none 0 0, .slice none 0 0, .bool false] 113) = wA at hB0 b1 b2 ⊢
  have z3 : wA.cell? ⟨w.heap.size, 2, none⟩ = some (.slice (some bd) 1 d) := b1.2.1 2
  have HA := Lib.hid (And.intro hB0 (And.intro b1 b2))
  clear hB0 b1 b2
  go_wp2_with (first
    | (go_at_call 95; (with_reducible refine (CQ.out _ HA.out.1).mono ?_); rintro e1 w1 ⟨rfl, hb1⟩; have HB1 := Lib.hid hb1; clear hb1)
    | ((with_reducible show wpList _ _ _ (Oper.mk none (.store 113 _ _) _ _ _ _ :: _) _ _); refine wp_st rfl 113 _ _ rfl (w.heap.size + 1) 0 [.bool false, .slice none 0 0, .slice (some ⟨w1.heap.size, 0, none⟩) 1 1, .bool true] rfl rfl size_Num rfl ((HA.out.2.2.keep HB1.out).alloc _) (Nat.le_refl _) rfl ?_; intro W9 c9 g9))
  have hb1 := below_then HA.out.1 HB1.out
  have hW := put_facts (g := w.heap.size + 1) (hb1.alloc hb1.size _) (by omega) g9
  have ho := ((digA_one (w := w1) (x := 1) (by omega)).away g9 (Nat.lt_of_lt_of_le HA.out.2.2.1 HB1.out.size)).base (base' := w.heap.size) hb1.size
  obtain ⟨dsc, hd1, hd2⟩ := row_Num
  refine bodyPost_ret (resC rfl _ _ W9 (g := w.heap.size + 1) rfl (res_box 113 c9 dsc hd1 hd2 size_Num)) rfl ?_
  exact ⟨_, rfl, ho, hW⟩
end Go.Proofs.Ytmdfgidejdiiiaa
end
section
namespace Go.Proofs.Ytmdfgidejdiiiaa
open Go.RowKit
theorem size_Pair : (Try.prog.info? 111).map (·.size) = some 3 := by kernel_rfl
theorem row_Pair : ∃ d, Try.prog.underlying 111 = some d ∧ d.isRow = true := ⟨_, Try.underlying111, rfl⟩
theorem rt_natural (A : Option Addr) (n c : Nat) (w : World) : Calls Try.prog 93 #[.slice A n c] w (RetV w (.agg #[.bool false, .slice A n c])) := by
  go_enter Try.func93, Try.ntmps93
  go_wp2_with fail
  obtain ⟨dsc, hd1, hd2⟩ := row_Int
  refine bodyPost_ret (resC rfl _ _ _ (g := w.heap.size) rfl (res_box 26 (Box.new rfl) dsc hd1 hd2 size_Int)) rfl ?_
  exact ⟨rfl, (Below.refl _ _).alloc (Nat.le_refl _) _⟩
theorem rt_quotient (na nb : Bool) (A B : Option Addr) (n c m d : Nat) (w : World) : Calls Try.prog 96 #[.agg #[.bool na, .slice A n c], .agg #[.bool nb, .slice B m d]] w (RetV w (.agg #[.bool (na != nb), .slice A n c, .slice B m d])) := by
  go_enter Try.func96, Try.ntmps96
  go_wp2_with fail
  obtain ⟨dsc, hd1, hd2⟩ := row_Pair
  refine bodyPost_ret (resC rfl _ _ _ (g := w.heap.size + 1 + 1) rfl (res_box 111 (Box.new (by simp)) dsc hd1 hd2 size_Pair)) rfl ?_
  exact ⟨rfl, (((Below.refl _ _).alloc (Nat.le_refl _) _).alloc (by simp) _).alloc (by simp; omega) _⟩
theorem rt_isOne (A : Option Addr) (n c : Nat) (l : List Int) (w : World) (h : DigA w A l) (hn : l.length = n) : Calls Try.prog 119 #[.slice A n c] w fun e w' => e = .returned (.bool (decide (l = [1]))) ∧ w = w' := by
  by_cases h1 : n = 1
  · subst h1
    obtain ⟨y, rfl⟩ := nv_len1 hn
    obtain ⟨bd, y', rfl, hbb, hy, hcy, _⟩ := h.at_ (k := 0) (by simp)
    rw [show bd.add 0 = bd from rfl] at hcy
    simp at hy
    subst hy
    clear h hn hbb
    by_cases hy1 : y = 1
    · subst hy1
      rw [decide_eq_true rfl]
      go_enter Try.func119, Try.ntmps119
      go_wp2_with fail
      go_ret
      exact ⟨rfl, rfl⟩
    · have e : ¬ ([y] : List Int) = [1] := by simpa using hy1
      have hy2 : (y == 1) = false := by simpa using hy1
      rw [decide_eq_false e]
      clear e
      go_enter Try.func119, Try.ntmps119
      go_wp2_with fail
      go_ret
      exact ⟨rfl, rfl⟩
  · have e : ¬ l = [1] := by intro e; rw [e] at hn; exact h1 hn.symm
    have h1' : (n : Int) ≠ 1 := by omega
    rw [decide_eq_false e]
    clear e h hn
    go_enter Try.func119, Try.ntmps119
    go_wp2_with fail
    go_ret
    exact ⟨rfl, rfl⟩
end Go.Proofs.Ytmdfgidejdiiiaa
end
