/- Several texts in one: Ry E17 E19. -/
import Derived.Test.YtpdpcgeeneajjaaDoorsRx
import Derived.Test.YtpdpcgeeneajjaaDoorsRs
import Derived.Test.YtpdpcgeeneajjaaDoorsE15toU5
import Derived.Test.YtpdpcgeeneajjaaDoorsJ
set_option linter.unusedVariables false
set_option linter.unusedSimpArgs false
section
namespace Go.Proofs.YtpdpcgeeneajjaaDoor
open Go.RowKit
def RetPar (w : World) (R : List Ins × Int × Int) (e : Ending) (w' : World) : Prop := ∃ A c, e = .returned (.tuple #[.slice A R.1.length c, .int .i64 R.2.1, .int .i64 R.2.2]) ∧ R.1.length ≤ c ∧ InsAt w' A R.1 ∧ Below w.heap.size w w'
theorem splF_end (c : UInt8) (l : List UInt8) : ∃ L x, splF c l = L ++ [x] := by
  have h := splF_ne c l
  exact ⟨(splF c l).dropLast, (splF c l).getLast h, (List.dropLast_concat_getLast h).symm⟩
theorem parse_eq {t : List UInt8} {L : List (List UInt8)} {x : List UInt8} (h : splF 10 t = L ++ [x]) : parseF t = parseL L x := by
  unfold parseF; rw [h, dropLast_snoc, getLast_snoc]
def LinesTo (L : List (List UInt8)) (k : Nat) (l : List Ins) : Prop := l.length = k ∧ linesF L = (l ++ (linesF (L.drop k)).1, k + (linesF (L.drop k)).2)
theorem LinesTo.zero (L : List (List UInt8)) : LinesTo L 0 [] := ⟨rfl, by simp⟩
theorem LinesTo.next {L : List (List UInt8)} {k : Nat} {l : List Ins} {s : List UInt8} {i : Ins} (h : LinesTo L k l) (hs : L[k]? = some s) (hi : instrF s = some i) : LinesTo L (k + 1) (l ++ [i]) := by
  obtain ⟨h1, h2⟩ := h
  obtain ⟨hlt, hg⟩ := List.getElem?_eq_some_iff.1 hs
  rw [List.drop_eq_getElem_cons hlt, hg, linesF_cons hi] at h2
  refine ⟨by rw [List.length_append, h1]; rfl, ?_⟩
  rw [h2, List.append_assoc]
  refine Prod.ext rfl ?_
  show k + ((linesF (L.drop (k + 1))).2 + 1) = k + 1 + (linesF (L.drop (k + 1))).2
  omega
theorem LinesTo.stop {L : List (List UInt8)} {k : Nat} {l : List Ins} {s : List UInt8} (h : LinesTo L k l) (hs : L[k]? = some s) (hi : instrF s = none) : (linesF L).2 = k := by
  obtain ⟨hlt, hg⟩ := List.getElem?_eq_some_iff.1 hs
  rw [h.2, List.drop_eq_getElem_cons hlt, hg, linesF_stop hi]
  rfl
theorem LinesTo.all {L : List (List UInt8)} {l : List Ins} (h : LinesTo L L.length l) : linesF L = (l, L.length) := by
  have h2 := h.2
  rw [List.drop_length] at h2
  rw [h2]
  show (l ++ [], L.length + 0) = _
  rw [List.append_nil, Nat.add_zero]
theorem parse_many {L : List (List UInt8)} {x : List UInt8} (h : 512 < L.length ∨ (x ≠ [] ∧ L.length = 512)) : parseL L x = ([], 0, 5) := by unfold parseL; rw [if_pos h]
theorem parse_stop {L : List (List UInt8)} {x : List UInt8} {k : Nat} (h : ¬ (512 < L.length ∨ (x ≠ [] ∧ L.length = 512))) (hk : (linesF L).2 = k) (hl : k < L.length) : parseL L x = ([], (k : Int) + 1, 21) := by unfold parseL; rw [if_neg h, hk, if_pos hl]
theorem parse_last {L : List (List UInt8)} {x : List UInt8} {l : List Ins} (h : ¬ (512 < L.length ∨ (x ≠ [] ∧ L.length = 512))) (hk : linesF L = (l, L.length)) (hx : x ≠ []) : parseL L x = ([], (L.length : Int) + 1, 21) := by unfold parseL; rw [if_neg h, hk, if_neg (by show ¬ L.length < L.length; omega), if_pos hx]
theorem parse_good {L : List (List UInt8)} {x : List UInt8} {l : List Ins} (h : ¬ (512 < L.length ∨ (x ≠ [] ∧ L.length = 512))) (hk : linesF L = (l, L.length)) (hx : x = []) : parseL L x = (l, 0, 0) := by unfold parseL; rw [if_neg h, hk, if_neg (by show ¬ L.length < L.length; omega), if_neg (by simp [hx])]
theorem ret_none {w w' : World} {R : List Ins × Int × Int} {a b : Int} (h : R = ([], a, b)) (hb : Below w.heap.size w w') : RetPar w R (.returned (.tuple #[.slice none 0 0, .int .i64 a, .int .i64 b])) w' := by
  subst h; exact ⟨none, 0, rfl, Nat.le_refl _, fun k i hk => by simp at hk, hb⟩
theorem ret_good {w w' : World} {R : List Ins × Int × Int} {l : List Ins} {v : Value} {base : Nat} (h : R = (l, 0, 0)) (ho : OwnIR base w' v l) (hb : Below w.heap.size w w') : RetPar w R (.returned (.tuple #[v, .int .i64 0, .int .i64 0])) w' := by
  obtain ⟨A, c, e1, e2, e3⟩ := ho.form
  subst h; subst e1; exact ⟨A, c, rfl, e2, e3, hb⟩
theorem single_at {w : World} {i : Ins} (hi : i.ok) : InsAt (w.alloc (.cells i.cells.toArray 50)) (some ⟨w.heap.size, 0, none⟩) [i] := by
  obtain ⟨A1, c1, e1, -, h1⟩ := (OwnIR.single (w := w) (i := i) hi).form
  injection e1 with e1
  rw [e1]; exact h1
set_option maxRecDepth 100000 in
set_option maxHeartbeats 8000000 in
theorem r38_Parse (t : List UInt8) (w : World) (ht : t.length ≤ 100000) : Calls Tryd.prog 10 #[.string (str t)] w (RetPar w (parseF t)) := by
  obtain ⟨L, x, hLx⟩ := splF_end 10 t
  have hmem : ∀ y ∈ L ++ [x], y.length ≤ 100000 := fun y hy => Nat.le_trans (splF_mem (c := 10) (s := t) y (by rw [hLx]; exact hy)) ht
  obtain ⟨n, hn⟩ : ∃ n, L.length = n := ⟨_, rfl⟩
  have hnn : n ≤ 100000 := by
    have h1 := splF_length 10 t
    have h2 : t.count 10 ≤ t.length := List.count_le_length
    rw [hLx, List.length_append] at h1
    simp at h1; omega
  have CS : Hid (∀ w1, Calls Tryd.prog 26 #[.string (str t), .int .u8 10] w1 (RetStrs w1 (L ++ [x]))) := Lib.hid fun w1 => by
    have := r38_split t 10 w1 (by omega)
    rw [hLx] at this; exact this
  rw [parse_eq hLx]
  obtain ⟨R, hR⟩ : ∃ R, parseL L x = R := ⟨_, rfl⟩
  rw [hR]
  have HRR := Lib.hid hR
  have HMM := Lib.hid hmem
  have HN := Lib.hid hn
  have HPL : Hid ((L ++ [x]).length = n + 1) := Lib.hid (by rw [List.length_append, hn]; rfl)
  clear hR hmem hn hLx ht
  go_enter Tryd.func10, Tryd.ntmps10
  go_upto_region 2 with (go_at_call 26; (with_reducible refine (CS.out _).mono ?_); rintro e1 w1 ⟨A, c, rfl, hc, hA, hb1⟩; rw [HPL.out] at hc ⊢)
  have HB1 := Lib.hid hb1
  obtain ⟨ad, rfl, hx0, hadb⟩ := hA n x (by rw [List.getElem?_append_right (by rw [HN.out]; exact Nat.le_refl _), HN.out, Nat.sub_self]; rfl)
  have HA : Hid (StrsAt w1 (some ad) L) := Lib.hid (by have := hA.takeL n; rwa [← HN.out, List.take_left'] at this; exact rfl)
  have w0 : IntKind.i64.wrap ((n + 1 : Nat) - 1) = (n : Int) := (IntWalk.i64_in _ (by omega)).trans (by omega)
  have w0' : IntKind.i64.wrap ((n : Int) + 1 - 1) = (n : Int) := (IntWalk.i64_in _ (by omega)).trans (by omega)
  have wn : IntKind.i64.wrap ((n : Int) + 1) = (n : Int) + 1 := IntWalk.i64_in _ (by omega)
  have hc' : (n : Int) ≤ c := by omega
  clear hA hb1
  go_upto_region 4 with fail
  obtain ⟨xs, hxs⟩ : ∃ s, str x = s := ⟨_, rfl⟩
  rw [hxs]
  have hxe : xs.toList = [] ↔ x = [] := by rw [← hxs, ByteArray.toList_eq]; exact Iff.rfl
  have HXE := Lib.hid hxe
  clear hxs hxe hx0 w0
  by_cases hbig : 512 < n
  · have q : (512 : Int) < (n : Int) := by omega
    have hr := parse_many (L := L) (x := x) (.inl (by rw [HN.out]; exact hbig))
    go_wp2_with fail
    go_ret3
    exact ret_none (HRR.out.symm.trans hr) HB1.out
  have q : ¬ (512 : Int) < (n : Int) := by omega
  have q' : (n : Int) ≤ 512 := by omega
  by_cases hfull : x ≠ [] ∧ n = 512
  · obtain ⟨hx, rfl⟩ := hfull
    have hx1 : ¬ xs.toList = [] := fun e => hx (HXE.out.1 e)
    have hx2 : xs.toList.isEmpty = false := by cases e : xs.toList with | nil => exact absurd e hx1 | cons => rfl
    have hr := parse_many (L := L) (x := x) (.inr ⟨hx, HN.out⟩)
    go_wp2_with fail
    go_ret3
    exact ret_none (HRR.out.symm.trans hr) HB1.out
  have HNB : Hid (¬ (512 < L.length ∨ (x ≠ [] ∧ L.length = 512))) := Lib.hid (by rw [HN.out]; rintro (h | h); (· exact hbig h); (· exact hfull h))
  have key : (xs.toList = [] ∧ xs.toList.isEmpty = true) ∨ (¬ xs.toList = [] ∧ xs.toList.isEmpty = false ∧ ¬ (n : Int) = 512) := by
    by_cases hx : x = []
    · exact .inl ⟨HXE.out.2 hx, by rw [HXE.out.2 hx]; rfl⟩
    · have hx1 : ¬ xs.toList = [] := fun e => hx (HXE.out.1 e)
      exact .inr ⟨hx1, by cases e : xs.toList with | nil => exact absurd e hx1 | cons => rfl, fun e => hfull ⟨hx, by omega⟩⟩
  clear hbig hfull
  rcases key with ⟨key, kem⟩ | ⟨key, kem, n5⟩
  all_goals
    go_wp2_with fail
    go_loopw [7, 8] (fun o i wr => ∃ (k : Nat) (l : List Ins), k ≤ n ∧ i = .int .i64 k ∧ Hid (LinesTo L k l) ∧ Hid (OwnIR w1.heap.size wr o l) ∧ Hid (Below w1.heap.size w1 wr)) (fun o i _ => n - (intOf i).toNat)
    case atStart => exact ⟨0, [], Nat.zero_le _, rfl, Lib.hid (LinesTo.zero L), Lib.hid OwnIR.nil, Lib.hid (Below.refl _ _)⟩
    case round =>
      obtain ⟨k, l, hk, rfl, HL, HO, HB⟩ := hrel
      by_cases hlt : k < n
      · obtain ⟨s, hs⟩ : ∃ s, L[k]? = some s := ⟨_, List.getElem?_eq_getElem (by rw [HN.out]; exact hlt)⟩
        obtain ⟨ad2, e2, hcs, hcb⟩ := (HA.out.grow HB.out) k s hs
        injection e2 with e2
        subst e2
        have hsl : s.length ≤ 100000 := HMM.out s (List.mem_append_left _ (List.mem_of_getElem? hs))
        have HS := Lib.hid hs
        have q1 : (k : Int) < (n : Int) := by omega
        have q0 : (0 : Int) ≤ (k : Int) := by omega
        have wk : IntKind.i64.wrap ((k : Int) + 1) = ((k + 1 : Nat) : Int) := (IntWalk.i64_in _ (by omega)).trans (by omega)
        have CI : Hid (∀ w1, Calls Tryd.prog 27 #[.string (str s)] w1 (RetIn w1 (instrF s))) := Lib.hid fun w1 => r38_instruction s w1 hsl
        obtain ⟨Z, hZ⟩ : ∃ Z, instrF s = Z := ⟨_, rfl⟩
        rw [hZ] at CI
        have HZ := Lib.hid hZ
        generalize str s = ss at CI hcs
        clear hs hsl hZ
        cases Z with
        | none =>
          have hst := HL.out.stop HS.out HZ.out
          have hpr := parse_stop HNB.out hst (by rw [HN.out]; exact hlt)
          go_wp2_with (first
            | (go_at_call 27; (with_reducible refine (CI.out _).mono ?_); rintro e2 w2 ⟨i, hok, rfl, hij, hb2⟩)
            | ((with_reducible show wpList _ _ _ (Oper.mk _ (.store _ _ _) _ _ _ _ :: _) _ _); refine st_ins (w := w2.alloc (.cells Ins.zero.cells.toArray 50)) (g := w2.heap.size) (i := Ins.zero) (j := i) (Box.new rfl) rfl _ _ rfl rfl rfl ?_; intro W3 b3 p3))
          have hb3 := put_facts ((Below.refl w2.heap.size w2).alloc (Nat.le_refl _) (.cells Ins.zero.cells.toArray 50)) (Nat.le_refl _) p3
          go_ret3
          exact ret_none (HRR.out.symm.trans hpr) (below_then HB1.out (below_then (below_then HB.out hb2) hb3))
        | some i0 =>
          have hnx := HL.out.next HS.out HZ.out
          go_upto_region 11 with (first
            | (go_at_call 27; (with_reducible refine (CI.out _).mono ?_); rintro e2 w2 ⟨i, hok, rfl, hij, hb2⟩; have e3 := hij i0 rfl; clear hij; subst e3)
            | ((with_reducible show wpList _ _ _ (Oper.mk _ (.store _ _ _) _ _ _ _ :: _) _ _); refine st_ins (w := w2.alloc (.cells Ins.zero.cells.toArray 50)) (g := w2.heap.size) (i := Ins.zero) (j := i) (Box.new rfl) rfl _ _ rfl rfl rfl ?_; intro W3 b3 p3))
          have hb3 := put_facts ((Below.refl w2.heap.size w2).alloc (Nat.le_refl _) (.cells Ins.zero.cells.toArray 50)) (Nat.le_refl _) p3
          have HB3 := Lib.hid (below_then (below_then HB.out hb2) hb3)
          have HO3 := Lib.hid ((HO.out.grow hb2).grow hb3)
          have HI3 := Lib.hid b3
          have HOK := Lib.hid hok
          have HLE : Hid (l.length + 1 ≤ 100000000) := Lib.hid (by rw [HL.out.1]; omega)
          have HNX := Lib.hid hnx
          clear b3 p3 hb2 hb3 hok hnx
          generalize w2.heap.size = g9 at HI3 ⊢
          go_wp2_with (first
            | ((with_reducible show wpList _ _ _ (Oper.mk _ (.load 50 _) _ _ _ _ :: _) _ _); refine ld_ins HI3.out rfl _ rfl rfl ?_)
            | ((with_reducible show wpList _ _ _ (Oper.mk _ (.buildSlice _ _ _) _ _ _ _ :: _) _ _); refine bld_ins1 (i := i) rfl _ rfl rfl ?_)
            | (at_builtin; refine app_ins _ rfl _ _ rfl w1.heap.size (m := [i]) rfl rfl (HO3.out.grow ((Below.refl _ _).alloc (Nat.le_refl _) _)) (single_at HOK.out) rfl HLE.out (Nat.le_trans HB3.out.size (by simp)) ?_; intro v4 w4 hown4 hb4))
          go_roundw
          case rel => exact ⟨k + 1, l ++ [i], by omega, rfl, HNX, Lib.hid hown4, Lib.hid ((HB3.out.alloc HB3.out.size _).trans hb4)⟩
          case measure => simp [intOf]; omega
      · obtain rfl : k = n := by omega
        have hlo : ¬ (k : Int) < (k : Int) := by omega
        have hall : linesF L = (l, L.length) := LinesTo.all (by rw [HN.out]; exact HL.out)
        by_cases hx : x = []
        · have hx2 : xs.toList = [] := HXE.out.2 hx
          have hpr := parse_good HNB.out hall hx
          first
            | exact absurd hx2 key
            | (go_wp2_with fail
               go_ret3
               exact ret_good (HRR.out.symm.trans hpr) HO.out (below_then HB1.out HB.out))
        · have hx2 : ¬ xs.toList = [] := fun e => hx (HXE.out.1 e)
          have hpr := parse_last HNB.out hall hx
          rw [HN.out] at hpr
          first
            | exact absurd key hx2
            | (go_wp2_with fail
               go_ret3
               exact ret_none (HRR.out.symm.trans hpr) (below_then HB1.out HB.out))
theorem cnt_last {t : List UInt8} {b : UInt8} : ∀ {c : UInt8}, splF c (t ++ [b]) = if b = c then splF c t ++ [[]] else (splF c t).dropLast ++ [(splF c t).getLastD [] ++ [b]] := by
  intro c
  induction t with
  | nil =>
    by_cases h : b = c
    · subst h; rw [if_pos rfl]; show splF b [b] = _; rw [splF_hit]; rfl
    · rw [if_neg h]; show splF c [b] = _; rw [splF_miss h]; rfl
  | cons a t ih =>
    rw [List.cons_append]
    by_cases ha : a = c
    · subst ha
      rw [splF_hit, splF_hit, ih]
      split
      · rfl
      · obtain ⟨L, x, h⟩ := splF_end a t
        rw [h]
        show [] :: ((L ++ [x]).dropLast ++ _) = (([] :: L) ++ [x]).dropLast ++ [(([] :: L) ++ [x]).getLastD [] ++ [b]]
        rw [dropLast_snoc, getLast_snoc, dropLast_snoc, getLast_snoc]; rfl
    · rw [splF_miss ha, splF_miss ha, ih]
      obtain ⟨L, x, h⟩ := splF_end c t
      rw [h]
      cases L with
      | nil => split <;> simp
      | cons y L =>
        split
        · rfl
        · rw [dropLast_snoc, getLast_snoc]
          show (a :: y) :: (L ++ [x ++ [b]]) = (((a :: y) :: L) ++ [x]).dropLast ++ [(((a :: y) :: L) ++ [x]).getLastD [] ++ [b]]
          rw [dropLast_snoc, getLast_snoc]; rfl
theorem last_nil {t : List UInt8} {c : UInt8} {L : List (List UInt8)} {x : List UInt8} {b : UInt8} (h : splF c t = L ++ [x]) (hb : t[t.length - 1]? = some b) : x = [] ↔ b = c := by
  have hne : t ≠ [] := by rintro rfl; simp at hb
  have e := List.dropLast_concat_getLast hne
  have hlast : t.getLast hne = b := by
    rw [List.getLast_eq_getElem]
    rw [List.getElem?_eq_getElem (by have := List.length_pos_iff.2 hne; omega)] at hb
    injection hb
  rw [hlast] at e
  rw [← e, cnt_last] at h
  by_cases hbc : b = c
  · rw [if_pos hbc] at h
    have := congrArg (fun l => l.getLastD []) h
    simp only [getLast_snoc] at this
    exact ⟨fun _ => hbc, fun _ => this.symm⟩
  · rw [if_neg hbc] at h
    have := congrArg (fun l => l.getLastD []) h
    simp only [getLast_snoc] at this
    exact ⟨fun hx => by rw [hx] at this; simp at this, fun hx => absurd hx hbc⟩
set_option maxRecDepth 100000 in
set_option maxHeartbeats 8000000 in
theorem pr_Parse (t : List UInt8) (w : World) (hw : RdAt w) (ht : t.length ≤ 100000) : Calls Tryd.prog 9 #[.string (str t)] w (RetPar w (parseF t)) := by
  obtain ⟨L, x, hLx⟩ := splF_end 10 t
  have hmem : ∀ y ∈ L ++ [x], y.length ≤ 100000 := fun y hy => Nat.le_trans (splF_mem (c := 10) (s := t) y (by rw [hLx]; exact hy)) ht
  obtain ⟨n, hn⟩ : ∃ n, L.length = n := ⟨_, rfl⟩
  have hcnt : t.count 10 = n := by
    have h1 := splF_length 10 t
    rw [hLx, List.length_append] at h1
    simp at h1; omega
  have hnn : n ≤ 100000 := by
    have h2 : t.count 10 ≤ t.length := List.count_le_length
    omega
  obtain ⟨z, hz⟩ : ∃ z, t.length = z := ⟨_, rfl⟩
  have hzz : (str t).size = z := (str_size t).trans hz
  by_cases h0 : t = []
  · subst h0
    go_enter Tryd.func9, Tryd.ntmps9
    have hx1 : (str []).toList = [] := by rw [ByteArray.toList_eq]; rfl
    go_wp2_with fail
    go_ret3
    exact ret_none rfl (Below.refl _ _)
  have hz0 : 0 < z := by have := List.length_pos_iff.2 h0; omega
  obtain ⟨b, hb⟩ : ∃ b, t[z - 1]? = some b := ⟨_, List.getElem?_eq_getElem (by omega)⟩
  have hlb : x = [] ↔ b = 10 := last_nil hLx (by rw [hz]; exact hb)
  have CS : Hid (∀ w1, RdAt w1 → Calls Tryd.prog 24 #[.string (str t), .string ⟨#[10]⟩] w1 (RetStrs w1 (L ++ [x]))) := Lib.hid fun w1 h1 => by
    have h2 := lib_Split t 10 w1 h1 (by omega)
    rw [hLx] at h2
    exact h2.mono fun e w' ⟨A, e1, e2, e3⟩ => ⟨A, _, e1, Nat.le_refl _, e2, e3⟩
  have CC : Hid (∀ w1, Calls Tryd.prog 23 #[.string (str t), .string ⟨#[10]⟩] w1 fun e w' => e = .returned (.int .i64 (n : Int)) ∧ w1 = w') := Lib.hid fun w1 => (Tryd.strings_Count_one (str t) 10 w1).mono fun e w' ⟨h1, h2⟩ => ⟨by rw [h1, show Lib.countByte (str t).data.toList 10 = n from hcnt], h2.symm⟩
  rw [parse_eq hLx]
  obtain ⟨R, hR⟩ : ∃ R, parseL L x = R := ⟨_, rfl⟩
  rw [hR]
  have HRR := Lib.hid hR
  have HMM := Lib.hid hmem
  have HN := Lib.hid hn
  have HPL : Hid ((L ++ [x]).length = n + 1) := Lib.hid (by rw [List.length_append, hn]; rfl)
  have HRD := Lib.hid hw
  have hx1 : ¬ (str t).toList = [] := by rw [ByteArray.toList_eq]; exact h0
  have hx2 : (str t).toList.isEmpty = false := by cases e : (str t).toList with | nil => exact absurd e hx1 | cons => rfl
  obtain ⟨vb, hvb⟩ : ∃ v, (b.toNat : Int) = v := ⟨_, rfl⟩
  have HIX : Hid (∀ w, (Instr.index 9 (.string (str t)) (.int .i64 ((z - 1 : Nat) : Int))).run Tryd.prog w = .ok (.int .u8 vb) w) := Lib.hid fun w => by rw [← hvb]; exact run_ixS hb w
  have wz : IntKind.i64.wrap ((z : Int) - 1) = ((z - 1 : Nat) : Int) := (IntWalk.i64_in _ (by omega)).trans (by omega)
  have HLB : Hid (x = [] ↔ vb = 10) := Lib.hid (by rw [hlb, ← hvb]; exact ⟨fun h => by rw [h]; rfl, fun h => UInt8.toNat_inj.1 (by show b.toNat = 10; omega)⟩)
  obtain ⟨ts, hts⟩ : ∃ s, str t = s := ⟨_, rfl⟩
  rw [hts] at CS CC HIX hx1 hx2 hzz ⊢
  clear hR hmem hn hLx ht hw hcnt h0 hb hlb hz hvb hts
  go_enter Tryd.func9, Tryd.ntmps9
  go_upto_region 4 with (go_at_call 23; (with_reducible refine (CC.out _).mono ?_); rintro e1 w1 ⟨rfl, rfl⟩)
  have ix := HIX.out w
  go_upto_region 5 with fail
  clear ix hx1 hx2 HIX CC wz hzz hz0
  have key : (x = [] ∧ vb = 10) ∨ (x ≠ [] ∧ ¬ vb = 10) := by
    by_cases hx : x = []
    · exact .inl ⟨hx, HLB.out.1 hx⟩
    · exact .inr ⟨hx, fun h => hx (HLB.out.2 h)⟩
  have HNN : ∃ (N M : Nat) (W : Bool), (x = [] ∧ N = n ∧ W = true ∨ x ≠ [] ∧ N = n + 1 ∧ W = false) ∧ (vb = 10 ∧ W = true ∨ ¬ vb = 10 ∧ W = false) ∧ N ≤ 100001 ∧ (1 ≤ N → (M : Int) = (N : Int) - 1) := by
    rcases key with ⟨hx, h⟩ | ⟨hx, h⟩
    · exact ⟨n, n - 1, true, .inl ⟨hx, rfl, rfl⟩, .inl ⟨h, rfl⟩, by omega, fun _ => by omega⟩
    · exact ⟨n + 1, n, false, .inr ⟨hx, rfl, rfl⟩, .inr ⟨h, rfl⟩, by omega, fun _ => by omega⟩
  clear key HLB
  obtain ⟨N, M, W, hW, hV, hN0, hM⟩ := HNN
  have HW := Lib.hid hW
  have HM := Lib.hid hM
  clear hM
  rcases hV with ⟨rfl, rfl⟩ | ⟨hv, rfl⟩
  · obtain rfl : N = n := by rcases hW with ⟨_, h, _⟩ | ⟨_, _, h⟩; (· exact h); (· cases h)
    clear hW
    go_upto_region 7 with fail
    by_cases hbig : 512 < N
    · have q : (512 : Int) < (N : Int) := by omega
      have hr : parseL L x = ([], 0, 5) := parse_many (by
        rw [HN.out]
        rcases HW.out with ⟨_, h, _⟩ | ⟨h1, h, _⟩
        · exact .inl (by omega)
        · by_cases h5 : 512 < N
          · exact .inl h5
          · exact .inr ⟨h1, by omega⟩)
      go_wp2_with fail
      go_ret3
      exact ret_none (HRR.out.symm.trans hr) (Below.refl _ _)
    have q : ¬ (512 : Int) < (N : Int) := by omega
    have q' : (N : Int) ≤ 512 := by omega
    have HNB : Hid (¬ (512 < L.length ∨ (x ≠ [] ∧ L.length = 512))) := Lib.hid (by
      rw [HN.out]
      rcases HW.out with ⟨h1, h, _⟩ | ⟨h1, h, _⟩
      · rintro (h5 | ⟨h5, _⟩)
        · omega
        · exact h5 h1
      · rintro (h5 | ⟨_, h5⟩) <;> omega)
    have hbig' : N ≤ 512 := by omega
    clear hbig
    go_upto_region 10 with (go_at_call 24; (with_reducible refine (CS.out _ HRD.out).mono ?_); rintro e1 w1 ⟨A, c, rfl, hc, hA, hb1⟩; rw [HPL.out] at hc ⊢)
    have HB1 := Lib.hid hb1
    have HA := Lib.hid hA
    have HRD1 : Hid (RdAt w1) := Lib.hid (HRD.out.grow HB1.out)
    clear hb1 hA
    go_upto_region 11 with ((with_reducible show wpList _ _ _ (Oper.mk _ (.makeSlice _ _ _) _ _ _ _ :: _) _ _); refine mk_ins0 rfl _ _ rfl w1.heap.size N rfl rfl rfl (by omega) (Nat.le_refl _) ?_; intro w2 ho2 hb2)
    have HO2 := Lib.hid ho2
    have HB2 := Lib.hid hb2
    generalize (Value.slice (some ⟨w1.heap.size, 0, none⟩) 0 N) = v0 at HO2 ⊢
    clear ho2 hb2
    go_wp2_with fail
    go_loopw [8, 33] (fun o i wr => ∃ (k : Nat) (l : List Ins), k ≤ N ∧ k ≤ N ∧ i = .int .i64 k ∧ Hid (LinesTo L k l) ∧ Hid (OwnIR w1.heap.size wr o l) ∧ Hid (Below w1.heap.size w1 wr)) (fun o i _ => N - (intOf i).toNat)
    case atStart => exact ⟨0, [], Nat.zero_le _, Nat.zero_le _, rfl, Lib.hid (LinesTo.zero L), HO2, HB2⟩
    case round =>
      obtain ⟨k, l, hkn, hk, rfl, HL, HO, HB⟩ := hrel
      clear HO2 HB2
      by_cases hlt : k < N
      · have q1 : (k : Int) < (N : Int) := by omega
        have q0 : (0 : Int) ≤ (k : Int) := by omega
        have wk : IntKind.i64.wrap ((k : Int) + 1) = ((k + 1 : Nat) : Int) := (IntWalk.i64_in _ (by omega)).trans (by omega)
        have hm := HM.out (by omega)
        have wN : IntKind.i64.wrap ((N : Int) - 1) = (M : Int) := (IntWalk.i64_in _ (by omega)).trans (by omega)
        have hlen : (k : Int) < (N : Int) + 1 := by omega
        have hlen' : (k : Int) < ((N + 1 : Nat) : Int) := by omega
        obtain ⟨s, hs⟩ : ∃ s, (L ++ [x])[k]? = some s := ⟨_, List.getElem?_eq_getElem (by rw [HPL.out]; omega)⟩
        obtain ⟨ad2, rfl, hcs, hcb⟩ := (HA.out.grow HB.out) k s hs
        have hsl : s.length ≤ 100000 := HMM.out s (List.mem_of_getElem? hs)
        have HS := Lib.hid hs
        have HRDR : Hid (RdAt wr) := Lib.hid (HRD1.out.grow HB.out)
        have CI : Hid (∀ w1, RdAt w1 → Calls Tryd.prog 25 #[.string (str s)] w1 (RetIn w1 (instrF s))) := Lib.hid fun w1 h1 => by rw [← read_instr]; exact pr_read s w1 h1 hsl
        obtain ⟨Z, hZ⟩ : ∃ Z, instrF s = Z := ⟨_, rfl⟩
        rw [hZ] at CI
        have HZ := Lib.hid hZ
        generalize str s = ss at CI hcs
        clear hs hsl hZ
        by_cases hkl : k < N
        · have hLs : L[k]? = some s := by have := HS.out; rwa [List.getElem?_append_left (by rw [HN.out]; exact hkl)] at this
          cases Z with
          | none =>
            have hst := HL.out.stop hLs HZ.out
            have hpr := parse_stop HNB.out hst (by rw [HN.out]; exact hkl)
            clear hm wN
            go_wp2_with (first
              | (go_at_call 25; (with_reducible refine (CI.out _ HRDR.out).mono ?_); rintro e2 w2 ⟨i, hok, rfl, hij, hb2⟩)
              | ((with_reducible show wpList _ _ _ (Oper.mk _ (.store _ _ _) _ _ _ _ :: _) _ _); refine st_ins (w := w2.alloc (.cells Ins.zero.cells.toArray 50)) (g := w2.heap.size) (i := Ins.zero) (j := i) (Box.new rfl) rfl _ _ rfl rfl rfl ?_; intro W3 b3 p3))
            have hb3 := put_facts ((Below.refl w2.heap.size w2).alloc (Nat.le_refl _) (.cells Ins.zero.cells.toArray 50)) (Nat.le_refl _) p3
            go_ret3
            exact ret_none (HRR.out.symm.trans hpr) (below_then HB1.out (below_then (below_then HB.out hb2) hb3))
          | some i0 =>
            have hnx := HL.out.next hLs HZ.out
            go_upto_region 15 with (first
              | (go_at_call 25; (with_reducible refine (CI.out _ HRDR.out).mono ?_); rintro e2 w2 ⟨i, hok, rfl, hij, hb2⟩; have e3 := hij i0 rfl; clear hij; subst e3)
              | ((with_reducible show wpList _ _ _ (Oper.mk _ (.store _ _ _) _ _ _ _ :: _) _ _); refine st_ins (w := w2.alloc (.cells Ins.zero.cells.toArray 50)) (g := w2.heap.size) (i := Ins.zero) (j := i) (Box.new rfl) rfl _ _ rfl rfl rfl ?_; intro W3 b3 p3))
            have hb3 := put_facts ((Below.refl w2.heap.size w2).alloc (Nat.le_refl _) (.cells Ins.zero.cells.toArray 50)) (Nat.le_refl _) p3
            have HB3 := Lib.hid (below_then (below_then HB.out hb2) hb3)
            have HO3 := Lib.hid ((HO.out.grow hb2).grow hb3)
            have HI3 := Lib.hid b3
            have HOK := Lib.hid hok
            have HLE : Hid (l.length + 1 ≤ 100000000) := Lib.hid (by rw [HL.out.1]; omega)
            have HNX := Lib.hid hnx
            clear b3 p3 hb2 hb3 hok hnx
            generalize w2.heap.size = g9 at HI3 ⊢
            have hkk : k + 1 ≤ N := by omega
            have d0 : ∀ x : Bool, (x && false) = false := fun x => Bool.and_false x
            by_cases hkm : (k : Int) = (M : Int)
            all_goals
              go_wp2_with (first
                | ((with_reducible show wpList _ _ _ (Oper.mk _ (.load 50 _) _ _ _ _ :: _) _ _); refine ld_ins HI3.out rfl _ rfl rfl ?_)
                | ((with_reducible show wpList _ _ _ (Oper.mk _ (.buildSlice _ _ _) _ _ _ _ :: _) _ _); refine bld_ins1 (i := i) rfl _ rfl rfl ?_)
                | (at_builtin; refine app_ins _ rfl _ _ rfl w1.heap.size (m := [i]) rfl rfl (HO3.out.grow ((Below.refl _ _).alloc (Nat.le_refl _) _)) (single_at HOK.out) rfl HLE.out (Nat.le_trans HB3.out.size (by simp)) ?_; intro v4 w4 hown4 hb4))
              go_roundw
              case rel => exact ⟨k + 1, l ++ [i], by omega, by omega, by first | rfl | exact congrArg (Value.int .i64) (by omega), HNX, Lib.hid hown4, Lib.hid ((HB3.out.alloc HB3.out.size _).trans hb4)⟩
              case measure => simp [intOf]; omega
        · obtain rfl : k = N := by omega
          exfalso; rcases HW.out with ⟨_, h, _⟩ | ⟨_, _, h⟩; (· omega); (· cases h)
      · obtain rfl : k = N := by omega
        have hlo : ¬ (k : Int) < (k : Int) := by omega
        have hall : linesF L = (l, L.length) := LinesTo.all (by rw [HN.out]; exact HL.out)
        have hx : x = [] := by rcases HW.out with ⟨h, _, _⟩ | ⟨_, _, h⟩; (· exact h); (· cases h)
        have hpr := parse_good HNB.out hall hx
        go_wp2_with fail
        go_ret3
        exact ret_good (HRR.out.symm.trans hpr) HO.out (below_then HB1.out HB.out)
  · have hNe : N = n + 1 := by rcases hW with ⟨_, _, h⟩ | ⟨_, h, _⟩; (· cases h); (· exact h)
    have wn : IntKind.i64.wrap ((n : Int) + 1) = (N : Int) := (IntWalk.i64_in _ (by omega)).trans (by omega)
    clear hW hNe
    have hv2 : (vb == 10) = false := beq_eq_false_iff_ne.2 hv
    go_upto_region 7 with fail
    clear wn
    by_cases hbig : 512 < N
    · have q : (512 : Int) < (N : Int) := by omega
      have hr : parseL L x = ([], 0, 5) := parse_many (by
        rw [HN.out]
        rcases HW.out with ⟨_, h, _⟩ | ⟨h1, h, _⟩
        · exact .inl (by omega)
        · by_cases h5 : 512 < n
          · exact .inl h5
          · exact .inr ⟨h1, by omega⟩)
      go_wp2_with fail
      go_ret3
      exact ret_none (HRR.out.symm.trans hr) (Below.refl _ _)
    have q : ¬ (512 : Int) < (N : Int) := by omega
    have q' : (N : Int) ≤ 512 := by omega
    have HNB : Hid (¬ (512 < L.length ∨ (x ≠ [] ∧ L.length = 512))) := Lib.hid (by
      rw [HN.out]
      rcases HW.out with ⟨h1, h, _⟩ | ⟨h1, h, _⟩
      · rintro (h5 | ⟨h5, _⟩)
        · omega
        · exact h5 h1
      · rintro (h5 | ⟨_, h5⟩) <;> omega)
    have hbig' : N ≤ 512 := by omega
    clear hbig
    go_upto_region 10 with (go_at_call 24; (with_reducible refine (CS.out _ HRD.out).mono ?_); rintro e1 w1 ⟨A, c, rfl, hc, hA, hb1⟩; rw [HPL.out] at hc ⊢)
    have HB1 := Lib.hid hb1
    have HA := Lib.hid hA
    have HRD1 : Hid (RdAt w1) := Lib.hid (HRD.out.grow HB1.out)
    clear hb1 hA
    go_upto_region 11 with ((with_reducible show wpList _ _ _ (Oper.mk _ (.makeSlice _ _ _) _ _ _ _ :: _) _ _); refine mk_ins0 rfl _ _ rfl w1.heap.size N rfl rfl rfl (by omega) (Nat.le_refl _) ?_; intro w2 ho2 hb2)
    have HO2 := Lib.hid ho2
    have HB2 := Lib.hid hb2
    generalize (Value.slice (some ⟨w1.heap.size, 0, none⟩) 0 N) = v0 at HO2 ⊢
    clear ho2 hb2
    go_wp2_with fail
    go_loopw [8, 33] (fun o i wr => ∃ (k : Nat) (l : List Ins), k ≤ n ∧ k ≤ N ∧ i = .int .i64 k ∧ Hid (LinesTo L k l) ∧ Hid (OwnIR w1.heap.size wr o l) ∧ Hid (Below w1.heap.size w1 wr)) (fun o i _ => N - (intOf i).toNat)
    case atStart => exact ⟨0, [], Nat.zero_le _, Nat.zero_le _, rfl, Lib.hid (LinesTo.zero L), HO2, HB2⟩
    case round =>
      obtain ⟨k, l, hkn, hk, rfl, HL, HO, HB⟩ := hrel
      clear HO2 HB2
      by_cases hlt : k < N
      · have q1 : (k : Int) < (N : Int) := by omega
        have q0 : (0 : Int) ≤ (k : Int) := by omega
        have wk : IntKind.i64.wrap ((k : Int) + 1) = ((k + 1 : Nat) : Int) := (IntWalk.i64_in _ (by omega)).trans (by omega)
        have hm := HM.out (by omega)
        have wN : IntKind.i64.wrap ((N : Int) - 1) = (M : Int) := (IntWalk.i64_in _ (by omega)).trans (by omega)
        have hlen : (k : Int) < (n : Int) + 1 := by omega
        have hlen' : (k : Int) < ((n + 1 : Nat) : Int) := by omega
        obtain ⟨s, hs⟩ : ∃ s, (L ++ [x])[k]? = some s := ⟨_, List.getElem?_eq_getElem (by rw [HPL.out]; omega)⟩
        obtain ⟨ad2, rfl, hcs, hcb⟩ := (HA.out.grow HB.out) k s hs
        have hsl : s.length ≤ 100000 := HMM.out s (List.mem_of_getElem? hs)
        have HS := Lib.hid hs
        have HRDR : Hid (RdAt wr) := Lib.hid (HRD1.out.grow HB.out)
        have CI : Hid (∀ w1, RdAt w1 → Calls Tryd.prog 25 #[.string (str s)] w1 (RetIn w1 (instrF s))) := Lib.hid fun w1 h1 => by rw [← read_instr]; exact pr_read s w1 h1 hsl
        obtain ⟨Z, hZ⟩ : ∃ Z, instrF s = Z := ⟨_, rfl⟩
        rw [hZ] at CI
        have HZ := Lib.hid hZ
        generalize str s = ss at CI hcs
        clear hs hsl hZ
        by_cases hkl : k < n
        · have hLs : L[k]? = some s := by have := HS.out; rwa [List.getElem?_append_left (by rw [HN.out]; exact hkl)] at this
          cases Z with
          | none =>
            have hst := HL.out.stop hLs HZ.out
            have hpr := parse_stop HNB.out hst (by rw [HN.out]; exact hkl)
            clear hm wN
            go_wp2_with (first
              | (go_at_call 25; (with_reducible refine (CI.out _ HRDR.out).mono ?_); rintro e2 w2 ⟨i, hok, rfl, hij, hb2⟩)
              | ((with_reducible show wpList _ _ _ (Oper.mk _ (.store _ _ _) _ _ _ _ :: _) _ _); refine st_ins (w := w2.alloc (.cells Ins.zero.cells.toArray 50)) (g := w2.heap.size) (i := Ins.zero) (j := i) (Box.new rfl) rfl _ _ rfl rfl rfl ?_; intro W3 b3 p3))
            have hb3 := put_facts ((Below.refl w2.heap.size w2).alloc (Nat.le_refl _) (.cells Ins.zero.cells.toArray 50)) (Nat.le_refl _) p3
            go_ret3
            exact ret_none (HRR.out.symm.trans hpr) (below_then HB1.out (below_then (below_then HB.out hb2) hb3))
          | some i0 =>
            have hnx := HL.out.next hLs HZ.out
            go_upto_region 15 with (first
              | (go_at_call 25; (with_reducible refine (CI.out _ HRDR.out).mono ?_); rintro e2 w2 ⟨i, hok, rfl, hij, hb2⟩; have e3 := hij i0 rfl; clear hij; subst e3)
              | ((with_reducible show wpList _ _ _ (Oper.mk _ (.store _ _ _) _ _ _ _ :: _) _ _); refine st_ins (w := w2.alloc (.cells Ins.zero.cells.toArray 50)) (g := w2.heap.size) (i := Ins.zero) (j := i) (Box.new rfl) rfl _ _ rfl rfl rfl ?_; intro W3 b3 p3))
            have hb3 := put_facts ((Below.refl w2.heap.size w2).alloc (Nat.le_refl _) (.cells Ins.zero.cells.toArray 50)) (Nat.le_refl _) p3
            have HB3 := Lib.hid (below_then (below_then HB.out hb2) hb3)
            have HO3 := Lib.hid ((HO.out.grow hb2).grow hb3)
            have HI3 := Lib.hid b3
            have HOK := Lib.hid hok
            have HLE : Hid (l.length + 1 ≤ 100000000) := Lib.hid (by rw [HL.out.1]; omega)
            have HNX := Lib.hid hnx
            clear b3 p3 hb2 hb3 hok hnx
            generalize w2.heap.size = g9 at HI3 ⊢
            have hkk : k + 1 ≤ n := by omega
            have hkm : ¬ (k : Int) = (M : Int) := by rcases HW.out with ⟨_, _, h⟩ | ⟨_, h, _⟩; (· cases h); (· omega)
            all_goals
              go_wp2_with (first
                | ((with_reducible show wpList _ _ _ (Oper.mk _ (.load 50 _) _ _ _ _ :: _) _ _); refine ld_ins HI3.out rfl _ rfl rfl ?_)
                | ((with_reducible show wpList _ _ _ (Oper.mk _ (.buildSlice _ _ _) _ _ _ _ :: _) _ _); refine bld_ins1 (i := i) rfl _ rfl rfl ?_)
                | (at_builtin; refine app_ins _ rfl _ _ rfl w1.heap.size (m := [i]) rfl rfl (HO3.out.grow ((Below.refl _ _).alloc (Nat.le_refl _) _)) (single_at HOK.out) rfl HLE.out (Nat.le_trans HB3.out.size (by simp)) ?_; intro v4 w4 hown4 hb4))
              go_roundw
              case rel => exact ⟨k + 1, l ++ [i], by omega, by omega, by first | rfl | exact congrArg (Value.int .i64) (by omega), HNX, Lib.hid hown4, Lib.hid ((HB3.out.alloc HB3.out.size _).trans hb4)⟩
              case measure => simp [intOf]; omega
        · obtain rfl : k = n := by omega
          have hall : linesF L = (l, L.length) := LinesTo.all (by rw [HN.out]; exact HL.out)
          have hx : x ≠ [] := by rcases HW.out with ⟨_, _, h⟩ | ⟨h, _, _⟩; (· cases h); (· exact h)
          have hpr := parse_last HNB.out hall hx
          rw [HN.out] at hpr
          have hkm : M = k := by rcases HW.out with ⟨_, _, h⟩ | ⟨_, h, _⟩; (· cases h); (· omega)
          subst hkm
          cases Z with
          | none =>
            clear hm wN
            go_wp2_with (first
              | (go_at_call 25; (with_reducible refine (CI.out _ HRDR.out).mono ?_); rintro e2 w2 ⟨i, hok, rfl, hij, hb2⟩)
              | ((with_reducible show wpList _ _ _ (Oper.mk _ (.store _ _ _) _ _ _ _ :: _) _ _); refine st_ins (w := w2.alloc (.cells Ins.zero.cells.toArray 50)) (g := w2.heap.size) (i := Ins.zero) (j := i) (Box.new rfl) rfl _ _ rfl rfl rfl ?_; intro W3 b3 p3))
            have hb3 := put_facts ((Below.refl w2.heap.size w2).alloc (Nat.le_refl _) (.cells Ins.zero.cells.toArray 50)) (Nat.le_refl _) p3
            go_ret3
            exact ret_none (HRR.out.symm.trans hpr) (below_then HB1.out (below_then (below_then HB.out hb2) hb3))
          | some i0 =>
            clear hm
            go_wp2_with (first
              | (go_at_call 25; (with_reducible refine (CI.out _ HRDR.out).mono ?_); rintro e2 w2 ⟨i, hok, rfl, hij, hb2⟩; clear hij)
              | ((with_reducible show wpList _ _ _ (Oper.mk _ (.store _ _ _) _ _ _ _ :: _) _ _); refine st_ins (w := w2.alloc (.cells Ins.zero.cells.toArray 50)) (g := w2.heap.size) (i := Ins.zero) (j := i) (Box.new rfl) rfl _ _ rfl rfl rfl ?_; intro W3 b3 p3))
            have hb3 := put_facts ((Below.refl w2.heap.size w2).alloc (Nat.le_refl _) (.cells Ins.zero.cells.toArray 50)) (Nat.le_refl _) p3
            go_ret3
            exact ret_none (HRR.out.symm.trans hpr) (below_then HB1.out (below_then (below_then HB.out hb2) hb3))
      · obtain rfl : k = N := by omega
        have hlo : ¬ (k : Int) < (k : Int) := by omega
        exfalso; rcases HW.out with ⟨_, _, h⟩ | ⟨_, h, _⟩; (· cases h); (· omega)
end Go.Proofs.YtpdpcgeeneajjaaDoor
end
section
namespace Go.Proofs.YtpdpcgeeneajjaaDoor
def issF (t : Int × List Int) (i : Ins) : Int := rdF t.2 t.1 i.rd
def freeF (l : List Ins) (tk : List Bool) (k : Nat) : Bool := !(tk.getD k false) && (depRow l k k).all fun i => tk.getD i.toNat false
def betF (l : List Ins) (H : List Int) (t : Int × List Int) (b : Int × Int) (k : Nat) : Bool :=
  decide (b.1 < 0) || decide (issF t (l.getD k Ins.zero) < b.2) || (decide (issF t (l.getD k Ins.zero) = b.2) && decide (H.getD b.1.toNat 0 < H.getD k 0))
def stepB (l : List Ins) (H : List Int) (t : Int × List Int) (tk : List Bool) (b : Int × Int) (k : Nat) : Int × Int :=
  if freeF l tk k then (if betF l H t b k then ((k : Int), issF t (l.getD k Ins.zero)) else b) else b
def bestB (l : List Ins) (H : List Int) (t : Int × List Int) (tk : List Bool) (m : Nat) : Int × Int := (List.range m).foldl (stepB l H t tk) (-1, 0)
def grS (l : List Ins) (H : List Int) (s : List Bool × List Ins) : List Bool × List Ins :=
  (s.1.set (bestB l H (tmF s.2) s.1 l.length).1.toNat true, s.2 ++ [l.getD (bestB l H (tmF s.2) s.1 l.length).1.toNat Ins.zero])
def gr (l : List Ins) (H : List Int) : Nat → List Bool × List Ins
  | 0 => (List.replicate l.length false, [])
  | r + 1 => grS l H (gr l H r)
end Go.Proofs.YtpdpcgeeneajjaaDoor
end
section
namespace Go.Proofs.YtpdpcgeeneajjaaDoor
open Go.RowKit
def lenOf : Value → Nat
  | .slice _ n _ => n
  | _ => 0
end Go.Proofs.YtpdpcgeeneajjaaDoor
end
