/- The laws ProcessorReads and ProcessorReadsBack. -/
import Derived.Test.YtpdpcgeeneajjaaDoorsRd
import Derived.Test.YtpdpcgeeneajjaaDoorsRytoE19
import Derived.Test.YtpdpcgeeneajjaaDoorsS2toL8
import Derived.Test.YtpdpcgeeneajjaaDoorsE21toS1
import Derived.Test.YtpdpcgeeneajjaaDoorsS5toS11
set_option linter.unusedVariables false
set_option linter.unusedSimpArgs false
namespace Go.Proofs.YtpdpcgeeneajjaaDoor
open Go.RowKit
theorem decL_len : ∀ (k : Nat) (l : List Int) (P : List Ins), l.length ≤ k → decL l = some P → P.length ≤ l.length := fun k => by
  induction k with
  | zero =>
    intro l P hl h
    obtain rfl : l = [] := List.length_eq_zero_iff.1 (by omega)
    have e : decL [] = some [] := rfl
    rw [e] at h
    injection h with h
    subst h; exact Nat.le_refl _
  | succ k ih =>
    intro l P hl h
    unfold decL at h
    split at h
    · rename_i b0 b1 b2 b3 b4 b5 b6 b7 r
      split at h
      · obtain ⟨Q, hQ, rfl⟩ := Option.map_eq_some_iff.1 h
        have := ih r Q (by simp at hl; omega) hQ
        simp; omega
      · cases h
    · injection h with h
      subst h; exact Nat.zero_le _
theorem decI_len (l : List Int) : (decI l).length ≤ l.length := by
  unfold decI
  split
  · cases h : decL l with
    | none => exact Nat.zero_le _
    | some P => exact decL_len _ l P (Nat.le_refl _) h
  · exact Nat.zero_le _
theorem parse_len (t : List UInt8) : (parseF t).1.length ≤ 512 := by
  unfold parseF parseL
  split
  · exact Nat.zero_le _
  · split
    · exact Nat.zero_le _
    · split
      · exact Nat.zero_le _
      · have h := linesF_le (splF 10 t).dropLast
        show (linesF _).1.length ≤ 512
        omega
theorem ByAt.bytes {w : World} {A : Option Addr} {l : List Int} (h : ByAt w A l) : BytesAt w A l := fun k x hk => by
  obtain ⟨h1, h2, q, e, h3, h4⟩ := h k x hk
  exact ⟨⟨⟨q, 0, none⟩, e, by rw [add_noneI rfl]; simpa using h4, h3⟩, h1, h2⟩
theorem enc_formed {l : List Ins} (h : ∀ i ∈ l, i.formed = true) (hl : l.length ≤ 512) : encE l = 0 := by
  unfold encE
  rw [if_neg (by omega), if_pos (List.all_eq_true.2 h)]
theorem ld_prgV {ops : Array Oper} {rest : List Oper} {o : Oper} {a : Act} {Q : Exit → Act → World → Prop} {w : World} {g : Nat} {L : List Value} (hb : Box w g L) (hL : L.length = 10) (hw : Region.wanted o (yielded ops a.tmps) = true) (x : Operand) (ho : o.op = .load 39 x) (hx : a.eval x = .pointer (some ⟨g, 0, none⟩)) (h : wpList Tryd.prog ops Q rest (a.put o.dst (.agg L.toArray)) w) : wpList Tryd.prog ops Q (o :: rest) a w := by
  obtain ⟨d, h1, h2⟩ := row_prg
  exact BigFrame.wpList_want hw fun K hK => wp_load_mid _ x ho g 0 hx L d (Box.range hb (fun j v hj => by rw [Nat.zero_add]; exact hj)) h1 h2 (by rw [hL]; exact size_prg) (hK _ _ h)
set_option maxRecDepth 100000 in
set_option maxHeartbeats 8000000 in
theorem law_ProcessorReads (u : Option Addr × Nat × List Int) (t : List UInt8) (w : World) (hf : RdAt w) (hu : BytesAt w u.1 u.2.2 ∧ u.2.2.length ≤ u.2.1 ∧ u.2.2.length ≤ 9223372036854775807) (ht : t.length ≤ 9223372036854775807) :
    Calls Tryd.prog 3 #[.slice u.1 u.2.2.length u.2.1, .string (str t)] w fun e w' => e = .returned (.bool true) ∧ Below w.heap.size w w' := by
  obtain ⟨A, c, l⟩ := u
  obtain ⟨hli, hlc, hl9⟩ := hu
  simp only at hli hlc hl9 ⊢
  obtain ⟨n, hn⟩ : ∃ n, l.length = n := ⟨_, rfl⟩
  obtain ⟨z, hz⟩ : ∃ z, (str t).size = z := ⟨_, rfl⟩
  have htz : t.length = z := by rw [← hz, str_size]
  rw [hn] at hl9 hlc ⊢
  have CK : Hid (∀ w1, Below w.heap.size w w1 → Calls Tryd.prog 6 #[] w1 fun e w' => e = .returned (.bool true) ∧ Below w1.heap.size w1 w') := Lib.hid fun w1 hb => known38 w1 (hf.pr.grow hb)
  obtain ⟨E, hE⟩ : ∃ E, decE l = E := ⟨_, rfl⟩
  obtain ⟨D, hD⟩ : ∃ E, decI l = E := ⟨_, rfl⟩
  obtain ⟨dn, hdn⟩ : ∃ n, D.length = n := ⟨_, rfl⟩
  obtain ⟨P, p1, p2, hP⟩ : ∃ (P : List Ins) (p1 p2 : Int), parseF t = (P, p1, p2) := ⟨_, _, _, rfl⟩
  obtain ⟨pn, hpn⟩ : ∃ n, P.length = n := ⟨_, rfl⟩
  have dn9 : dn ≤ 9223372036854775807 := by rw [← hdn, ← hD]; exact Nat.le_trans (decI_len l) (by omega)
  have pn9 : pn ≤ 9223372036854775807 := by
    have := parse_len t
    rw [hP] at this
    rw [← hpn]; exact Nat.le_trans this (by decide)
  have C1 : Hid (∀ w1, Below w.heap.size w w1 → Calls Tryd.prog 7 #[.slice A n c] w1 fun e w' => ∃ X x, e = .returned (.tuple #[.slice X dn x, .int .i64 E]) ∧ InsAt w' X D ∧ Below w1.heap.size w1 w') := Lib.hid fun w1 hb => by
    refine (pr_Decode A n c l w1 (hf.pr.forms.grow hb) (hli.grow hb) hn hlc hl9).mono ?_
    rintro e w' ⟨v, rfl, ho, hb'⟩
    obtain ⟨X, x, rfl, -, hi⟩ := ho.form
    rw [hE, hD, hdn]
    exact ⟨X, x, rfl, by rw [← hD]; exact hi, hb'⟩
  have C2 : Hid (∀ w1, Below w.heap.size w w1 → Calls Tryd.prog 8 #[.slice A n c] w1 fun e w' => ∃ X x, e = .returned (.tuple #[.slice X dn x, .int .i64 E]) ∧ InsAt w' X D ∧ Below w1.heap.size w1 w') := Lib.hid fun w1 hb => by
    refine (r38_Decode A n c l w1 (hli.grow hb) hn hl9).mono ?_
    rintro e w' ⟨v, rfl, ho, hb'⟩
    obtain ⟨X, x, rfl, -, hi⟩ := ho.form
    rw [hE, hD, hdn]
    exact ⟨X, x, rfl, by rw [← hD]; exact hi, hb'⟩
  have C3 : Hid (z ≤ 2000 → ∀ w1, Below w.heap.size w w1 → Calls Tryd.prog 9 #[.string (str t)] w1 fun e w' => ∃ X x, e = .returned (.tuple #[.slice X pn x, .int .i64 p1, .int .i64 p2]) ∧ InsAt w' X P ∧ Below w1.heap.size w1 w') := Lib.hid fun hz w1 hb => by
    refine (pr_Parse t w1 (hf.grow hb) (by omega)).mono ?_
    rintro e w' ⟨X, x, h1, -, h2, h3⟩
    rw [hP] at h1 h2
    rw [← hpn]
    exact ⟨X, x, h1, h2, h3⟩
  have C4 : Hid (z ≤ 2000 → ∀ w1, Calls Tryd.prog 10 #[.string (str t)] w1 fun e w' => ∃ X x, e = .returned (.tuple #[.slice X pn x, .int .i64 p1, .int .i64 p2]) ∧ InsAt w' X P ∧ Below w1.heap.size w1 w') := Lib.hid fun hz w1 => by
    refine (r38_Parse t w1 (by omega)).mono ?_
    rintro e w' ⟨X, x, h1, -, h2, h3⟩
    rw [hP] at h1 h2
    rw [← hpn]
    exact ⟨X, x, h1, h2, h3⟩
  have S1 : Hid (∀ w1 X Y x y, InsAt w1 X D → InsAt w1 Y D → Calls Tryd.prog 11 #[.slice X dn x, .slice Y dn y] w1 fun e w' => e = .returned (.bool true) ∧ Below w1.heap.size w1 w') := Lib.hid fun w1 X Y x y h1 h2 => r38_SameCode X Y dn x y D w1 h1 h2 hdn dn9
  have S2 : Hid (∀ w1 X Y x y, InsAt w1 X P → InsAt w1 Y P → Calls Tryd.prog 11 #[.slice X pn x, .slice Y pn y] w1 fun e w' => e = .returned (.bool true) ∧ Below w1.heap.size w1 w') := Lib.hid fun w1 X Y x y h1 h2 => r38_SameCode X Y pn x y P w1 h1 h2 hpn pn9
  generalize str t = st at hz C3 C4 ⊢
  have d1 : (E == E) = true := by simp
  have d2 : (p1 == p1) = true := by simp
  have d3 : (p2 == p2) = true := by simp
  clear hf hli hlc ht htz hE hD hdn hP hpn dn9 pn9 hn
  by_cases hbig : (500 < n ∧ n ≤ 4096) ∨ 4116 < n ∨ 2000 < z
  · have HB := Lib.hid (Below.refl w.heap.size w)
    have hcase : ((500 : Int) < (n : Int) ∧ (n : Int) ≤ 4096) ∨ ((500 : Int) < (n : Int) ∧ ¬ (n : Int) ≤ 4096 ∧ (4116 : Int) < (n : Int)) ∨ ((500 : Int) < (n : Int) ∧ ¬ (n : Int) ≤ 4096 ∧ ¬ (4116 : Int) < (n : Int) ∧ (2000 : Int) < (z : Int)) ∨ (¬ (500 : Int) < (n : Int) ∧ ¬ (4116 : Int) < (n : Int) ∧ (2000 : Int) < (z : Int)) := by omega
    clear hbig
    go_enter Tryd.func3, Tryd.ntmps3
    rcases hcase with ⟨q1, q2⟩ | ⟨q1, q2, q3⟩ | ⟨q1, q2, q3, q4⟩ | ⟨q1, q3, q4⟩
    all_goals
      go_wp2_with (go_at_call 6; (with_reducible refine (CK.out _ HB.out).mono ?_); rintro e1 w1 ⟨rfl, hb1⟩)
      go_ret
      exact ⟨rfl, below_then HB.out hb1⟩
  have hz2 : z ≤ 2000 := by omega
  have C3 := Lib.hid (C3.out hz2)
  have C4 := Lib.hid (C4.out hz2)
  have hcase : ((500 : Int) < (n : Int) ∧ ¬ (n : Int) ≤ 4096 ∧ ¬ (4116 : Int) < (n : Int) ∧ ¬ (2000 : Int) < (z : Int)) ∨ (¬ (500 : Int) < (n : Int) ∧ ¬ (4116 : Int) < (n : Int) ∧ ¬ (2000 : Int) < (z : Int)) := by omega
  clear hbig hz2
  have HB := Lib.hid (Below.refl w.heap.size w)
  go_enter Tryd.func3, Tryd.ntmps3
  rcases hcase with ⟨q1, q2, q3, q4⟩ | ⟨q1, q3, q4⟩
  all_goals
    go_upto_region 7 with (first
      | (go_at_call 7; (with_reducible refine (C1.out _ HB.out).mono ?_); rintro e1 w1 ⟨X1, x1, rfl, hi1, hb1⟩; have HB1 := Lib.hid (below_then HB.out hb1); have HI1 := Lib.hid hi1; clear hi1 hb1)
      | (go_at_call 8; (with_reducible refine (C2.out _ HB1.out).mono ?_); rintro e2 w2 ⟨X2, x2, rfl, hi2, hb2⟩; have HB2 := Lib.hid (below_then HB1.out hb2); have HI1 := Lib.hid (HI1.out.grow hb2); have HI2 := Lib.hid hi2; clear hi2 hb2)
      | (go_at_call 9; (with_reducible refine (C3.out _ HB2.out).mono ?_); rintro e3 w3 ⟨X3, x3, rfl, hi3, hb3⟩; have HB3 := Lib.hid (below_then HB2.out hb3); have HI1 := Lib.hid (HI1.out.grow hb3); have HI2 := Lib.hid (HI2.out.grow hb3); have HI3 := Lib.hid hi3; clear hi3 hb3)
      | (go_at_call 10; (with_reducible refine (C4.out _).mono ?_); rintro e4 w4 ⟨X4, x4, rfl, hi4, hb4⟩; have HB4 := Lib.hid (below_then HB3.out hb4); have HI1 := Lib.hid (HI1.out.grow hb4); have HI2 := Lib.hid (HI2.out.grow hb4); have HI3 := Lib.hid (HI3.out.grow hb4); have HI4 := Lib.hid hi4; clear hi4 hb4))
    clear q1 q3 q4
    go_wp2_with (first
      | (go_at_call 6; (with_reducible refine (CK.out _ HB4.out).mono ?_); rintro e5 w5 ⟨rfl, hb5⟩; have HB5 := Lib.hid (below_then HB4.out hb5); have HI1 := Lib.hid (HI1.out.grow hb5); have HI2 := Lib.hid (HI2.out.grow hb5); have HI3 := Lib.hid (HI3.out.grow hb5); have HI4 := Lib.hid (HI4.out.grow hb5); clear hb5)
      | (go_at_call 11; (with_reducible refine (S1.out _ _ _ _ _ HI1.out HI2.out).mono ?_); rintro e6 w6 ⟨rfl, hb6⟩; have HB6 := Lib.hid (below_then HB5.out hb6); have HI3 := Lib.hid (HI3.out.grow hb6); have HI4 := Lib.hid (HI4.out.grow hb6); clear hb6)
      | (go_at_call 11; (with_reducible refine (S2.out _ _ _ _ _ HI3.out HI4.out).mono ?_); rintro e7 w7 ⟨rfl, hb7⟩; have HB7 := Lib.hid (below_then HB6.out hb7); clear hb7))
    go_ret
    exact ⟨rfl, HB7.out⟩
set_option maxRecDepth 100000 in
set_option maxHeartbeats 8000000 in
theorem law_ProcessorReadsBack (dd : DraftA) (w : World) (hf : RdAt w) (hd : DraftOk w dd) :
    Calls Tryd.prog 4 #[dd.v] w fun e w' => e = .returned (.bool true) ∧ Below w.heap.size w w' := by
  have CK : Hid (∀ w1, Below w.heap.size w w1 → Calls Tryd.prog 6 #[] w1 fun e w' => e = .returned (.bool true) ∧ Below w1.heap.size w1 w') := Lib.hid fun w1 hb => known38 w1 (hf.pr.grow hb)
  have HENT := Lib.hid (show Below w.heap.size w (w.alloc (.cells #[.int .i64 dd.dn, .int .i64 dd.cn, .slice dd.RA dd.rs.length dd.rc, .slice dd.OA dd.os.length dd.oc, .slice dd.FA dd.fs.length dd.fc] 34)) from (Below.refl _ _).alloc (Nat.le_refl _) _)
  have HBOX := Lib.hid (show Box (w.alloc (.cells #[.int .i64 dd.dn, .int .i64 dd.cn, .slice dd.RA dd.rs.length dd.rc, .slice dd.OA dd.os.length dd.oc, .slice dd.FA dd.fs.length dd.fc] 34)) w.heap.size dd.lst from Box.new rfl)
  obtain ⟨D, hD⟩ : ∃ x, dd.d 40 = x := ⟨_, rfl⟩
  have hfo : ∀ i ∈ D.code, i.formed = true := by rw [← hD]; exact prgF_formed _ _ _ _ _ 40
  have hva : validB D = true := by rw [← hD]; exact prgF_valid _ _ _ _ _ 40 (by decide)
  have hlen : D.code.length ≤ 41 := by rw [← hD]; exact (prgF_code_pos _ _ _ _ _ 40).2
  have hr9 : D.rg.length ≤ 9223372036854775807 := by
    have := (valid_rl hva).1
    omega
  have hE := enc_formed hfo (by omega)
  have hB : encB D.code = D.code.flatMap Ins.bytes := by unfold encB; rw [if_pos hE]
  have hF : fmtB D.code = fmtL D.code := by unfold fmtB; rw [if_pos hE]
  obtain ⟨k1, k2⟩ := dec_enc hfo (by omega)
  have k3 := parse_fmt hfo (by omega)
  rw [← hB] at k1 k2
  rw [← hF] at k3
  obtain ⟨cl, hcl⟩ : ∃ l, D.code = l := ⟨_, rfl⟩
  obtain ⟨bl, hbl⟩ : ∃ l, encB D.code = l := ⟨_, rfl⟩
  obtain ⟨sl, hsl⟩ : ∃ l, fmtB D.code = l := ⟨_, rfl⟩
  have hbin : ∀ x ∈ bl, 0 ≤ x ∧ x < 256 := by rw [← hbl]; exact bytes_in _
  have hblen : bl.length = 8 * cl.length := by rw [← hbl, hB, bytes_len, hcl]
  rw [hbl] at k1 k2
  rw [hsl] at k3
  rw [hcl] at hE k2 k3 hlen hfo hbl hsl hF
  obtain ⟨cn, hcn⟩ : ∃ m, cl.length = m := ⟨_, rfl⟩
  rw [hcn] at hlen hblen
  have CP : Hid (∀ w1, Below w.heap.size w w1 → Calls Tryd.prog 12 #[dd.v, .int .i64 40] w1 (RetPrgC w1 D)) := Lib.hid fun w1 hb => by
    rw [← hD]; exact dr_CodeC dd 40 w1 (hd.grow hb) (by omega)
  have C1 : Hid (∀ w1 A c, Below w.heap.size w w1 → InsAt w1 A cl → Calls Tryd.prog 13 #[.slice A cn c] w1 fun e w' => (∃ X x, e = .returned (.tuple #[.slice X (8 * cn) x, .int .i64 0]) ∧ 8 * cn ≤ x ∧ BytesAt w' X bl) ∧ Below w1.heap.size w1 w') := Lib.hid fun w1 A c hb hi => by
    have h := pr_Encode A cn c cl w1 (hf.pr.forms.grow hb) hi hcn (by omega)
    rw [hE, hbl] at h
    refine h.mono ?_
    rintro e w' ⟨⟨v, rfl, ho⟩, hb'⟩
    have ho' : w'.ownsRow w1.heap.size 5 1 v bl.length (bl.map (Value.int .u8)) := ho
    obtain ⟨A1, c1, e1, hc1⟩ := own_form ho'
    obtain ⟨A2, c2, rfl, h2⟩ := ho.byAt hbin
    rw [hblen] at e1 hc1 ⊢
    injection e1 with e2 e3 e4
    subst e4
    exact ⟨⟨A2, c2, rfl, hc1, h2.bytes⟩, hb'⟩
  have C2 : Hid (∀ w1 X x, Below w.heap.size w w1 → 8 * cn ≤ x → BytesAt w1 X bl → Calls Tryd.prog 7 #[.slice X (8 * cn) x] w1 fun e w' => ∃ Y y, e = .returned (.tuple #[.slice Y cn y, .int .i64 0]) ∧ InsAt w' Y cl ∧ Below w1.heap.size w1 w') := Lib.hid fun w1 X x hb hx hi => by
    refine (pr_Decode X (8 * cn) x bl w1 (hf.pr.forms.grow hb) hi hblen hx (by omega)).mono ?_
    rintro e w' ⟨v, rfl, ho, hb'⟩
    obtain ⟨Y, y, rfl, -, hi⟩ := ho.form
    rw [k1, k2, hcn]
    exact ⟨Y, y, rfl, by rw [← k2]; exact hi, hb'⟩
  have C3 : Hid (∀ w1 A c, Below w.heap.size w w1 → InsAt w1 A cl → Calls Tryd.prog 14 #[.slice A cn c] w1 fun e w' => e = .returned (.tuple #[.string (str sl), .int .i64 0]) ∧ Below w1.heap.size w1 w') := Lib.hid fun w1 A c hb hi => by
    have h := pr_Format A cn c cl w1 (hf.pr.grow hb) hi hcn (by omega)
    rw [hE, hsl] at h
    exact h
  have C4 : Hid (∀ w1 A, Below w.heap.size w w1 → InsAt w1 A cl → Calls Tryd.prog 9 #[.string (str sl)] w1 fun e w' => ∃ X x, e = .returned (.tuple #[.slice X cn x, .int .i64 0, .int .i64 0]) ∧ InsAt w' X cl ∧ Below w1.heap.size w1 w') := Lib.hid fun w1 A hb hi => by
    have hs : sl.length ≤ 100000 := by
      have := fmtL_len hi.ok
      rw [← hsl, hF]; omega
    refine (pr_Parse sl w1 (hf.grow hb) hs).mono ?_
    rintro e w' ⟨X, x, h1, -, h2, h3⟩
    rw [k3] at h1 h2
    rw [← hcn]
    exact ⟨X, x, h1, h2, h3⟩
  have S1 : Hid (∀ w1 X Y x y, InsAt w1 X cl → InsAt w1 Y cl → Calls Tryd.prog 11 #[.slice X cn x, .slice Y cn y] w1 fun e w' => e = .returned (.bool true) ∧ Below w1.heap.size w1 w') := Lib.hid fun w1 X Y x y h1 h2 => r38_SameCode X Y cn x y cl w1 h1 h2 hcn (by omega)
  have CV : Hid (∀ w1 (u : PrgA), u.d = D → Below w.heap.size w w1 → PrgAt w1 u → Calls Tryd.prog 15 #[.agg u.lst.toArray] w1 fun e w' => e = .returned (.bool true) ∧ Below w1.heap.size w1 w') := Lib.hid fun w1 u hu hb hp =>
    pr_Valid u w1 (hf.pr.forms.grow hb) hp (by rw [hu]; exact hr9) (by rw [hu, hcl, hcn]; omega) (by rw [hu]; exact hva)
  have HCL := Lib.hid hcl
  have HCN := Lib.hid hcn
  generalize str sl = ss at C3 C4
  have wm : IntKind.i64.wrap (8 * (cn : Int)) = ((8 * cn : Nat) : Int) := (IntWalk.i64_in _ (by omega)).trans (by omega)
  obtain ⟨bn, hbn⟩ : ∃ m, 8 * cn = m := ⟨_, rfl⟩
  rw [hbn] at C1 C2 wm
  have db : decide ((bn : Int) = (bn : Int)) = true := decide_eq_true rfl
  have db' : ((bn : Int) == (bn : Int)) = true := by simp
  clear hf hd hD hfo hva hr9 hE hB hF k1 k2 k3 hcl hbl hsl hbin hblen hcn hbn
  go_enter Tryd.func4, Tryd.ntmps4
  go_upto_region 1 with fail
  have HE0 := HENT.out
  have HX0 := HBOX.out
  generalize w.alloc (.cells #[.int .i64 dd.dn, .int .i64 dd.cn, .slice dd.RA dd.rs.length dd.rc, .slice dd.OA dd.os.length dd.oc, .slice dd.FA dd.fs.length dd.fc] 34) = w0 at HE0 HX0 ⊢
  have HB0 := Lib.hid HE0
  have HX := Lib.hid HX0
  clear HE0 HX0 HENT HBOX
  go_upto_region 2 with (first
    | ((with_reducible show wpList _ _ _ (Oper.mk _ (.load 34 _) _ _ _ _ :: _) _ _); refine ld_dft HX.out rfl _ rfl rfl ?_)
    | (go_at_call 12; (with_reducible refine (CP.out _ HB0.out).mono ?_); rintro e1 w1 ⟨u, hu, rfl, hat, hb1, hcap⟩)
    | ((with_reducible show wpList _ _ _ (Oper.mk none (.store 39 _ _) _ _ _ _ :: _) _ _); refine st_prgB (w := w1.alloc (.cells zeros10.toArray 39)) (M := zeros10) (g := w1.heap.size) (Box.new rfl) rfl (L := u.lst) (lst_ten u) (lst_one u) rfl _ _ rfl rfl rfl ?_; intro W2 b2 p2))
  have hb2 := put_facts ((Below.refl w1.heap.size w1).alloc (Nat.le_refl _) (.cells zeros10.toArray 39)) (Nat.le_refl _) p2
  have HB2 := Lib.hid (below_then (below_then HB0.out hb1) hb2)
  have HP2 := Lib.hid b2
  have HPA2 := Lib.hid (hat.grow hb2)
  have HU := Lib.hid hu
  have hia2 : InsAt W2 u.CA cl := by have := (hat.grow hb2).2; rw [hu, HCL.out] at this; exact this
  have hun : u.d.code.length = cn := by rw [hu, HCL.out]; exact HCN.out
  clear hb1 hb2 b2 p2 hat hcap CP HX HB0 hu
  generalize w1.heap.size = gp at HP2 ⊢
  obtain ⟨ca, hca⟩ : ∃ a, u.CA = a := ⟨_, rfl⟩
  obtain ⟨cc, hcc⟩ : ∃ a, u.cc = a := ⟨_, rfl⟩
  rw [hca] at hia2
  have HIA := Lib.hid hia2
  have x9 : W2.cell? ⟨gp, 9, none⟩ = some (.slice ca cn cc) := by
    rw [HP2.out.2.1 9]
    show some (Value.slice u.CA u.d.code.length u.cc) = _
    rw [hun, hca, hcc]
  clear hca hcc hun hia2
  go_upto_region 3 with (go_at_call 13; (with_reducible refine (C1.out _ _ _ HB2.out HIA.out).mono ?_); rintro e3 w3 ⟨⟨X3, x3, rfl, hx3, hi3⟩, hb3⟩)
  have HB3 := Lib.hid (below_then HB2.out hb3)
  have HBX := Lib.hid hi3
  have HX3 := Lib.hid hx3
  have HP3 := Lib.hid (HP2.out.keep hb3)
  have HPA3 := Lib.hid (HPA2.out.grow hb3)
  have HIA3 := Lib.hid (HIA.out.grow hb3)
  replace x9 := cell_b hb3 x9
  clear hi3 hx3 hb3 HIA HPA2 HP2
  go_upto_region 6 with (first
    | (go_at_call 7; (with_reducible refine (C2.out _ _ _ HB3.out HX3.out HBX.out).mono ?_); rintro e4 w4 ⟨X4, x4, rfl, hi4, hb4⟩; have HB4 := Lib.hid (below_then HB3.out hb4); have HI4 := Lib.hid hi4; have HIA4 := Lib.hid (HIA3.out.grow hb4); have HP4 := Lib.hid (HP3.out.keep hb4); have HPA4 := Lib.hid (HPA3.out.grow hb4); replace x9 := cell_b hb4 x9; clear hi4 hb4)
    | (go_at_call 14; (with_reducible refine (C3.out _ _ _ HB4.out HIA4.out).mono ?_); rintro e5 w5 ⟨rfl, hb5⟩; have HB5 := Lib.hid (below_then HB4.out hb5); have HI5 := Lib.hid (HI4.out.grow hb5); have HIA5 := Lib.hid (HIA4.out.grow hb5); have HP5 := Lib.hid (HP4.out.keep hb5); have HPA5 := Lib.hid (HPA4.out.grow hb5); replace x9 := cell_b hb5 x9; clear hb5)
    | (go_at_call 9; (with_reducible refine (C4.out _ _ HB5.out HIA5.out).mono ?_); rintro e6 w6 ⟨X6, x6, rfl, hi6, hb6⟩; have HB6 := Lib.hid (below_then HB5.out hb6); have HJ6 := Lib.hid hi6; have HI6 := Lib.hid (HI5.out.grow hb6); have HIA6 := Lib.hid (HIA5.out.grow hb6); have HP6 := Lib.hid (HP5.out.keep hb6); have HPA6 := Lib.hid (HPA5.out.grow hb6); replace x9 := cell_b hb6 x9; clear hi6 hb6))
  clear HBX HX3 HP3 HPA3 HIA3 HP4 HPA4 HIA4 HP5 HPA5 HIA5 HI4 HI5
  go_wp2_with (first
    | (go_at_call 6; (with_reducible refine (CK.out _ HB6.out).mono ?_); rintro e7 w7 ⟨rfl, hb7⟩; have HB7 := Lib.hid (below_then HB6.out hb7); have HI7 := Lib.hid (HI6.out.grow hb7); have HJ7 := Lib.hid (HJ6.out.grow hb7); have HIA7 := Lib.hid (HIA6.out.grow hb7); have HP7 := Lib.hid (HP6.out.keep hb7); have HPA7 := Lib.hid (HPA6.out.grow hb7); replace x9 := cell_b hb7 x9; clear hb7)
    | (go_at_call 11; (with_reducible refine (S1.out _ _ _ _ _ HJ8.out HIA8.out).mono ?_); rintro e9 w9 ⟨rfl, hb9⟩; have HB9 := Lib.hid (below_then HB8.out hb9); have HP9 := Lib.hid (HP8.out.keep hb9); have HPA9 := Lib.hid (HPA8.out.grow hb9); replace x9 := cell_b hb9 x9; clear hb9)
    | (go_at_call 11; (with_reducible refine (S1.out _ _ _ _ _ HI7.out HIA7.out).mono ?_); rintro e8 w8 ⟨rfl, hb8⟩; have HB8 := Lib.hid (below_then HB7.out hb8); have HJ8 := Lib.hid (HJ7.out.grow hb8); have HIA8 := Lib.hid (HIA7.out.grow hb8); have HP8 := Lib.hid (HP7.out.keep hb8); have HPA8 := Lib.hid (HPA7.out.grow hb8); replace x9 := cell_b hb8 x9; clear hb8)
    | ((with_reducible show wpList _ _ _ (Oper.mk _ (.load 39 _) _ _ _ _ :: _) _ _); refine ld_prgV HP9.out (lst_ten u) rfl _ rfl rfl ?_)
    | (go_at_call 15; (with_reducible refine (CV.out _ u HU.out HB9.out HPA9.out).mono ?_); rintro e10 w10 ⟨rfl, hb10⟩; have HB10 := Lib.hid (below_then HB9.out hb10); clear hb10))
  go_ret
  exact ⟨rfl, HB10.out⟩
end Go.Proofs.YtpdpcgeeneajjaaDoor
